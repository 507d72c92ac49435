/- A part of the proofs: Plain: the stacks of a row, by the program, on. -/
import Derived.Test.YtofeifhecboinaaGreatMB4
set_option linter.unusedVariables false
set_option linter.unusedSimpArgs false
noncomputable section
namespace Go.Proofs.Dk
open Go Go.IntKind
set_option maxRecDepth 100000
structure Fine (l : List cY) (m h : List Int) : Prop where
 nest : Nest l m h
 closed : Closed l m
 ends : ∀ j, j < l.length → uO l j = true
 jumps : ∀ j, j < l.length → j6 l h j = true
theorem nG {l : List cY} (h : eT l = 0) : Fine l (dt l).1 (dt l).2.1 := by
 have hs := jr h
 unfold eT at h
 rw [if_neg (by simpa using hs)] at h
 split at h
 ·rename_i h1
  split at h
  ·rename_i h2
   exact ⟨nE hs, lB hs, fun j hj => allF_iff.1 h1 j (ao _) (by omega), fun j hj => allF_iff.1 h2 j (ao _) (by omega)⟩
  ·cases h
 ·cases h
theorem Fine.len {l : List cY} {m h : List Int} (hF : Fine l m h) : 0 < l.length ∧ l.length ≤ 200 := ⟨(jg hF.nest.row).1, (jg hF.nest.row).2.1⟩
theorem Fine.right {l : List cY} {m h : List Int} (hF : Fine l m h) {i : Nat} (hi : i < l.length) : dH (l.getD i (0, 0, 0)) = true := (jg hF.nest.row).2.2 i hi
theorem Fine.succ {l : List cY} {m h : List Int} (hF : Fine l m h) {i : Nat} (hi : i < l.length) (h : dd l i ≠ 25) : i + 1 < l.length := by
 have h1 := hF.ends i hi
 unfold uO at h1
 have h2 : ((l.getD i (0, 0, 0)).1 == 25) = false := by rw [aQ]; exact h
 rw [h2] at h1
 have h3 : ((i : Int) == ((l.length - 1 : Nat) : Int)) = false := by
  cases h4 : ((i : Int) == ((l.length - 1 : Nat) : Int))
  ·rfl
  ·rw [h4] at h1; cases h1
 rw [aQ] at h3
 omega
theorem Fine.last {l : List cY} {m h : List Int} (hF : Fine l m h) : dd l (l.length - 1) = 25 := by
 have h1 := hF.ends (l.length - 1) (by have := hF.len; omega)
 unfold uO at h1
 have h3 : (((l.length - 1 : Nat) : Int) == ((l.length - 1 : Nat) : Int)) = true := by simp
 rw [h3] at h1
 cases h4 : ((l.getD (l.length - 1) (0, 0, 0)).1 == 25)
 ·rw [h4] at h1; cases h1
 ·exact eq_of_beq h4
theorem Fine.jump {l : List cY} {m h : List Int} (hF : Fine l m h) {i : Nat} (hi : i < l.length) (hj : dd l i = 19 ∨ dd l i = 20) : dr l i < l.length ∧ gt l m (dr l i) = gt l m i := by
 have h1 := hF.jumps i hi
 unfold j6 at h1
 rw [if_pos hj] at h1
 rw [aj, aw, ag] at h1
 refine ⟨h1.1, ?_⟩
 rw [← hF.nest.home i hi, ← hF.nest.home _ h1.1]
 exact h1.2
theorem Fine.next {l : List cY} {m h : List Int} (hF : Fine l m h) {i : Nat} (hi : i < l.length) : ∀ k ∈ fd l i, k < l.length := by
 intro k hk
 unfold fd at hk
 split at hk
 ·rename_i h1
  rw [aD] at hk
  subst hk
  exact (hF.jump hi (.inl h1)).1
 ·split at hk
  ·rename_i h1 h2
   rw [aA, aD] at hk
   rcases hk with rfl | rfl
   ·exact hF.succ hi (by omega)
   ·exact (hF.jump hi (.inr h2)).1
  ·split at hk
   ·cases hk
   ·rename_i h3
    rw [aD] at hk
    subst hk
    exact hF.succ hi h3
theorem Ez {l : List cY} {t : ByteArray} (ht : t.size ≤ 16) : ∀ (ks : List Nat) {f : gD}, FlowI l f → FlowI l (ks.foldl (fun f k => gK k t f) f)
 | [], f, h => h
 | k :: ks, f, h => Ez ht ks (Ey h k ht)
theorem Fr {l : List cY} {m : List Int} {i : Nat} {f f' : gD} (h : FlowI l f) (hs : f0 l m i f = .inr f') : FlowI l f' := by
 unfold f0 at hs
 split at hs
 ·cases hs
 ·split at hs
  ·cases hs
  ·split at hs
   ·cases hs
   ·split at hs
    ·cases hs
    ·cases hs
     exact Ez (zA _ _) _ h
theorem Ft (n : Nat) (hn : 3 < n) (hn2 : n < 1000000) {l : List cY} {m h : List Int} (hF : Fine l m h) (F : ((List Int) × (List (Int × (Int × Int))) × Int × Int × (List ByteArray) × (List Bool) × (List Bool)) → Option (((((List ByteArray) × Int × Unit) × (((List ByteArray) × (List Bool) × (List Bool) × Unit) × Unit)) ⊕ (Unit × (((List ByteArray) × (List Bool) × (List Bool) × Unit) × Unit))))) {f : gD} (hf : FlowI l f) {i : Nat} (hi : i < l.length) :
  mH n F m l (l.length : Int) (i : Int) f.1 f.2.1 f.2.2 = match f0 l m i f with
   | .inl e => some (.inl (([], e, ()), ((f.1, f.2.1, f.2.2, ()), ())))
   | .inr f' => F (m, l, (l.length : Int), ((i + 1 : Nat) : Int), f'.1, f'.2.1, f'.2.2) := by
 obtain ⟨l1, l2⟩ := hF.len
 have ha := hf.a
 have hb := hf.b
 have hc := hf.c
 have hr := hF.right hi
 have hm : dd l i = 22 → ∃ j : Nat, m.getD i 0 = (j : Int) ∧ j < l.length := fun h22 => by
  obtain ⟨k, k1, k2, _⟩ := hF.closed.cl i hi (.inl h22)
  exact ⟨k, k1, by omega⟩
 have hnx := hF.next hi
 have hjx := fun hj => (hF.jump hi hj).1
 have hjw := fun hj => nR (by omega) hi hr hj
 unfold mH DM f0
 simp only [ai]
 rw [if_pos (af (by omega)), if_pos (dc hi), if_pos (dc (by omega)), if_pos (dc (by omega)), di (by omega)]
 rcases bF (f.2.1.getD i false) with h1 | h1
 ·rw [h1, if_neg (show ¬ (!true) = true by decide), if_neg (show ¬ true = false by decide), if_pos (dc (by omega))]
  rcases bF (f.2.2.getD i false) with h2 | h2
  ·rw [h2, if_pos rfl, if_pos rfl]
   rfl
  ·rw [h2, if_neg (show ¬ false = true by decide), if_neg (show ¬ false = true by decide)]
   have key : (iF (l.getD i (0, 0, 0)) (f.1.getD i ByteArray.empty)).1.size ≤ 16 := zA _ _
   have tail : ((iz n ((l.getD i (0, 0, 0)).1, ((l.getD i (0, 0, 0)).2.1, (l.getD i (0, 0, 0)).2.2)) (f.1.getD i ByteArray.empty)).bind fun y19 => (if (y19.2 != 0) then (if (y19.2 != 0) then (some (.inl (([], y19.2, ()), ((f.1, f.2.1, f.2.2, ()), ())))) else (F (m, l, (l.length : Int), ((i + 1 : Nat) : Int), f.1, f.2.1, f.2.2))) else ((yQ n (i : Int) y19.1 f.1 f.2.1 f.2.2 (l.getD i (0, 0, 0)).1 (l.getD i (0, 0, 0)).2.1 (l.getD i (0, 0, 0)).2.2).bind fun y20 => (if (y20.2.2.2.2.2.1 == 19) then ((jK n (wrap .i64 ((wrap .i64 (y20.1 + 1)) + y20.2.2.2.2.2.2.1)) y20.2.1 y20.2.2.1 y20.2.2.2.1 y20.2.2.2.2.1).bind fun y21 => (if (decide (0 ≤ y21.1) && decide (y21.1 < (y21.2.2.2.1.length : Int))) then (if (decide (0 ≤ y21.1) && decide (y21.1 < (y21.2.2.1.length : Int))) then (F (m, l, (l.length : Int), ((i + 1 : Nat) : Int), (y21.2.2.1.set y21.1.toNat y21.2.1), (y21.2.2.2.1.set y21.1.toNat true), y21.2.2.2.2)) else none) else none)) else (if (y20.2.2.2.2.2.1 == 20) then ((jK n (wrap .i64 ((wrap .i64 (y20.1 + 1)) + y20.2.2.2.2.2.2.1)) y20.2.1 y20.2.2.1 y20.2.2.2.1 y20.2.2.2.2.1).bind fun y22 => (if (decide (0 ≤ y22.1) && decide (y22.1 < (y22.2.2.2.1.length : Int))) then (if (decide (0 ≤ y22.1) && decide (y22.1 < (y22.2.2.1.length : Int))) then (F (m, l, (l.length : Int), ((i + 1 : Nat) : Int), (y22.2.2.1.set y22.1.toNat y22.2.1), (y22.2.2.2.1.set y22.1.toNat true), y22.2.2.2.2)) else none) else none)) else (F (m, l, (l.length : Int), ((i + 1 : Nat) : Int), y20.2.2.1, y20.2.2.2.1, y20.2.2.2.2.1))))))) = match (if (iF (l.getD i (0, 0, 0)) (f.1.getD i ByteArray.empty)).2 ≠ 0 then Sum.inl (iF (l.getD i (0, 0, 0)) (f.1.getD i ByteArray.empty)).2
     else Sum.inr ((fd l i).foldl (fun g k => gK k (iF (l.getD i (0, 0, 0)) (f.1.getD i ByteArray.empty)).1 g) f) : Int ⊕ gD) with
    | .inl e => some (.inl (([], e, ()), ((f.1, f.2.1, f.2.2, ()), ())))
    | .inr f' => F (m, l, (l.length : Int), ((i + 1 : Nat) : Int), f'.1, f'.2.1, f'.2.2) := by
    have hA := Mn n hn hn2 (o := (l.getD i (0, 0, 0)).1) (A := (l.getD i (0, 0, 0)).2.1) (B := (l.getD i (0, 0, 0)).2.2) hr (hf.s i)
    rw [hA, ae]
    have e0 : ((l.getD i (0, 0, 0)).1, (l.getD i (0, 0, 0)).2.1, (l.getD i (0, 0, 0)).2.2) = l.getD i (0, 0, 0) := rfl
    rw [e0]
    generalize iF (l.getD i (0, 0, 0)) (f.1.getD i ByteArray.empty) = te at key ⊢
    obtain ⟨t, e⟩ := te
    simp only
    by_cases he : e = 0
    ·subst he
     rw [if_neg (by decide), if_neg (by decide)]
     unfold yQ
     rw [di (by omega)]
     by_cases h19 : (l.getD i (0, 0, 0)).1 = 19
     ·have hj := hjw (.inl h19)
      have nx : fd l i = [dr l i] := by unfold fd; rw [if_pos h19]
      rw [nx, h19, if_neg (by decide), ae]
      simp only
      rw [di (by omega), hj, if_pos (show ((19 : Int) == 19) = true from rfl)]
      exact mn n hf (hjx (.inl h19)) t fun a b c d e => F (m, l, (l.length : Int), ((i + 1 : Nat) : Int), c, d, e)
     ·rw [if_pos (ak.2 h19)]
      have b19 : ¬ ((l.getD i (0, 0, 0)).1 == 19) = true := by simpa only [ag] using h19
      by_cases h25 : (l.getD i (0, 0, 0)).1 = 25
      ·have nx : fd l i = [] := by unfold fd dd; rw [h25]; rfl
       rw [nx, h25, if_neg (by decide), ae]
       rfl
      ·have hs1 := hF.succ hi h25
       rw [if_pos (ak.2 h25), mn n hf hs1 t fun a b c d e => some ((i : Int), t, c, d, e, (l.getD i (0, 0, 0)).1, (l.getD i (0, 0, 0)).2.1, (l.getD i (0, 0, 0)).2.2), ae]
       simp only
       rw [di (by omega), if_neg b19]
       have hf1 := Ey hf (i + 1) key
       by_cases h20 : (l.getD i (0, 0, 0)).1 = 20
       ·have nx : fd l i = [i + 1, dr l i] := by unfold fd; rw [if_neg h19, if_pos h20]
        rw [nx, hjw (.inr h20), h20, if_pos (show ((20 : Int) == 20) = true from rfl)]
        exact mn n hf1 (hjx (.inr h20)) t fun a b c d e => F (m, l, (l.length : Int), ((i + 1 : Nat) : Int), c, d, e)
       ·have nx : fd l i = [i + 1] := by unfold fd; rw [if_neg h19, if_neg h20, if_neg h25]
        rw [nx, if_neg (show ¬ ((l.getD i (0, 0, 0)).1 == 20) = true by simpa only [ag] using h20)]
        rfl
    ·rw [if_pos (ak.2 he), if_pos (ak.2 he), if_pos he]
   by_cases h22 : (l.getD i (0, 0, 0)).1 = 22
   ·obtain ⟨j, j1, j2⟩ := hm h22
    rw [if_pos (show ((l.getD i (0, 0, 0)).1 == 22) = true by simpa only [ag] using h22), if_pos (dc (by rw [hF.nest.hm]; exact hi))]
    simp only [j1, ai]
    rw [if_pos (dc (show j < f.1.length by omega))]
    rcases bF (BZ (f.1.getD j ByteArray.empty) (f.1.getD i ByteArray.empty)) with h3 | h3
    ·rw [if_pos (show dd l i = 22 ∧ BZ (f.1.getD j ByteArray.empty) (f.1.getD i ByteArray.empty) = true from ⟨h22, h3⟩)]
     unfold BZ at h3
     rw [h3, if_pos rfl]
     rfl
    ·rw [if_neg (show ¬ (dd l i = 22 ∧ BZ (f.1.getD j ByteArray.empty) (f.1.getD i ByteArray.empty) = true) from fun h => by rw [h3] at h; cases h.2)]
     unfold BZ at h3
     rw [h3, if_neg (by decide)]
     exact tail
   ·rw [if_neg (show ¬ ((l.getD i (0, 0, 0)).1 == 22) = true by simpa only [ag] using h22), if_neg (fun h => h22 h.1)]
    exact tail
 ·rw [h1, if_pos (show (!false) = true from rfl), if_pos rfl]
  rfl
def iK (l : List cY) (m : List Int) : Nat → Nat → gD → Int ⊕ gD
 | 0, _, f => .inr f
 | r + 1, i, f => match f0 l m i f with
  | .inl e => .inl e
  | .inr f => iK l m r (i + 1) f
theorem wy (n : Nat) (hn : 3 < n) (hn2 : n < 1000000) {l : List cY} {m h : List Int} (hF : Fine l m h) : ∀ (f i : Nat) {s : gD}, FlowI l s → i ≤ l.length → l.length < f + i → ∃ a b c d e,
  it (fun F => (dM (C_ q_)) (mH n F)) f (m, l, (l.length : Int), (i : Int), s.1, s.2.1, s.2.2) = match iK l m (l.length - i) i s with
   | .inl z => some (.inl (([], z, ()), ((a, b, c, ()), ())))
   | .inr s' => some (.inr ((), ((s'.1, d, e, ()), ())))
 | 0, i, s, hs, hi, hf => by omega
 | f + 1, i, s, hs, hi, hf => by
  have ih := fun {s : gD} => wy n hn hn2 hF f (i + 1) (s := s)
  show ∃ a b c d e, mH n (it _ f) m l (l.length : Int) (i : Int) s.1 s.2.1 s.2.2 = _
  generalize it (fun F => (dM (C_ q_)) (mH n F)) f = F at ih ⊢
  rcases am i l.length with hlt | hge
  ·rw [Ft n hn hn2 hF F hs hlt, show l.length - i = (l.length - (i + 1)) + 1 by omega]
   simp only [iK]
   cases hq : f0 l m i s with
   | inl e => exact ⟨s.1, s.2.1, s.2.2, [], [], rfl⟩
   | inr s' => exact ih (Fr hs hq) (by omega) (by omega)
  ·have : i = l.length := by omega
   subst this
   unfold mH
   rw [if_neg (by simp), bf]
   exact ⟨[], [], [], s.2.1, s.2.2, rfl⟩
def j8 (l : List cY) : gD := (List.replicate l.length ByteArray.empty, (List.replicate l.length false).set 0 true, List.replicate l.length false)
theorem Mo (l : List cY) : FlowI l (j8 l) := ⟨by simp [j8], by simp [j8], by simp [j8], fun k => by
 unfold j8
 simp only [ar, bV]
 split <;> exact ao _⟩
def fJ (l : List cY) : Int := if eT l ≠ 0 then eT l else match iK l (dt l).1 l.length 0 (j8 l) with
 | .inl e => e
 | .inr _ => 0
theorem xQ (n : Nat) (l : List cY) (hl : l.length < n) (hn : n < 1000000) : gQ n l = some ((dt l).1, (dt l).2.2) := by
 unfold gQ
 rw [vu n l hl hn]
 rfl
theorem B0 (n : Nat) (l : List cY) (hl : l.length < n) (hn3 : 3 < n) (hn : n < 1000000) : ∃ o, yR n l = some (o, fJ l) := by
 unfold yR fJ
 rw [Er n l hl hn, ae]
 by_cases hw : eT l = 0
 ·have hF := nG hw
  have hI := Mo l
  obtain ⟨l1, l2⟩ := hF.len
  obtain ⟨a, b, c, d, e, h⟩ := wy n hn3 hn hF n 0 hI (ao _) (by omega)
  have c1 : (decide (0 ≤ (l.length : Int)) && ((l.length : Int) == (l.length : Int)) && decide ((l.length : Int) * (16 : Int) ≤ 140737488355328) && decide (1 ≤ 16)) = true := by simp; omega
  have c2 : (decide (0 ≤ (l.length : Int)) && ((l.length : Int) == (l.length : Int)) && decide ((l.length : Int) * (1 : Int) ≤ 140737488355328) && decide (1 ≤ 1)) = true := by simp; omega
  rw [if_neg (fun h => (ak.1 h) hw), xQ n l hl hn, ae, if_pos c1, if_pos c2, if_pos c2, if_neg (show ¬ (eT l ≠ 0) from fun h => h hw), ai]
  have hX : FlowI l (List.replicate l.length ByteArray.empty, List.replicate l.length false, List.replicate l.length false) := ⟨by simp, by simp, by simp, hI.s⟩
  have e0 : gK 0 (ByteArray.mk #[]) (List.replicate l.length ByteArray.empty, List.replicate l.length false, List.replicate l.length false) = j8 l := by
   unfold gK j8
   have e1 : (ByteArray.mk #[]) = ByteArray.empty := rfl
   have e2 : (List.replicate l.length false).getD 0 false = false := by
    simp only [ar, bV]
    split <;> rfl
   simp only [e1, List.set_replicate_self, e2]
   rfl
  have h0 := mn n hX l1 (ByteArray.mk #[]) fun a b c d e => (rK n ((dt l).1, l, (l.length : Int), 0, c, d, e)).bind fun y4 => ((Sum.elim (fun (z5 : (((List ByteArray) × Int × Unit) × (((List ByteArray) × (List Bool) × (List Bool) × Unit) × Unit))) => (some (z5.1.1, z5.1.2.1))) (fun (z6 : (Unit × (((List ByteArray) × (List Bool) × (List Bool) × Unit) × Unit))) => (some (z6.2.1.1, (0 : Int))))) y4)
  rw [e0] at h0
  unfold rK at h0 ⊢
  rw [bu] at h
  refine Exists.imp (fun o ho => h0.trans ho) ?_
  rw [show ((0 : Nat) : Int) = 0 from rfl] at h
  rw [h]
  cases hq : iK l (dt l).1 l.length 0 (j8 l) with
  | inl z => exact ⟨[], rfl⟩
  | inr s' => exact ⟨s'.1, rfl⟩
 ·rw [if_pos (by simp only [ak, ne_eq]; exact hw), if_pos hw]
  exact ⟨_, rfl⟩
theorem set_same {c : List Bool} {q : Nat} {b : Bool} (h : c.getD q false = b) (hq : q < c.length) : c.set q b = c := by
 rw [ar, av hq, bq] at h
 subst h
 exact List.set_getElem_self hq
theorem vv {A B : Int} (h : dH (21, A, B) = true) : 1 ≤ A ∧ A ≤ 1000 := by
 have h1 := (fu 0 (21, A, B)).symm.trans (MT 0 A B)
 rw [h] at h1
 by_cases h2 : 1 ≤ A
 ·by_cases h3 : A ≤ 1000
  ·exact ⟨h2, h3⟩
  ·rw [if_pos (af h2), if_neg (by simpa using h3)] at h1
   cases h1
 ·rw [if_neg (by simpa using h2)] at h1
  cases h1
def dn (a b : Int) : Int := if 1048577 < a + b then 1048577 else a + b
def f6 (w A : Int) : Int := if dn w 1 = 1048577 then 1048577 else dn 1 (A * dn w 1)
def mN (m : List Int) (i : Nat) : Nat := (m.getD i 0).toNat
def eo (W : Nat → Nat → Int) (l : List cY) (m : List Int) (i : Nat) : Int := if dd l i = 21 then f6 (W (i + 1) (mN m i)) (dJ l i) else 1
def eD (l : List cY) (m : List Int) (i : Nat) : List Nat := if dd l i = 21 then [mN m i + 1] else if dd l i = 19 then [dr l i] else if dd l i = 20 then [dr l i, i + 1] else [i + 1]
def er (b : Int → Int → Int) (D : Nat → Int) (k : Nat) (v : Int) : Nat → Int := fun j => if j = k then (if D k = -1 then v else b (D k) v) else D j
def ej (b : Int → Int → Int) (W : Nat → Nat → Int) (l : List cY) (m : List Int) (i : Nat) (D : Nat → Int) : Nat → Int :=
 if D i = -1 then D else (eD l m i).foldl (fun g k => er b g k (dn (D i) (eo W l m i))) D
def eF (b : Int → Int → Int) (W : Nat → Nat → Int) (l : List cY) (m : List Int) : Nat → Nat → (Nat → Int) → Nat → Int
 | 0, _, D => D
 | r + 1, i, D => eF b W l m r (i + 1) (ej b W l m i D)
def fe (a : Nat) : Nat → Int := fun j => if j = a then 0 else -1
def dX (b : Int → Int → Int) (l : List cY) (m : List Int) : Nat → Nat → Nat → Int
 | 0, _, _ => 0
 | f + 1, a, z => eF b (dX b l m f) l m (z - a) a (fe a) z
structure Reg (l : List cY) (m : List Int) (a z : Nat) : Prop where
 le : a ≤ z
 lt : z < l.length
 loop : ∀ i, a ≤ i → i < z → dw l i = true → ∃ j : Nat, m.getD i 0 = (j : Int) ∧ i < j ∧ j < z
 jump : ∀ i, a ≤ i → i < z → dd l i = 19 ∨ dd l i = 20 → dr l i ≤ z
theorem Fine.reg {l : List cY} {m h : List Int} (hF : Fine l m h) {p : Nat} (hp : p < l.length) (ho : dw l p = true) : Reg l m (p + 1) (mN m p) := by
 obtain ⟨j, j1, j2, j3⟩ := hF.nest.open_ p hp ho
 have hj : mN m p = j := by unfold mN; rw [j1]; rfl
 rw [hj]
 refine ⟨by omega, j3, fun i h1 h2 h3 => ?_, fun i h1 h2 h3 => ?_⟩
 ·obtain ⟨q, q1, q2, q3⟩ := hF.nest.open_ i (by omega) h3
  obtain ⟨q', e1, e2⟩ := hF.nest.cross p i j (by omega) h2 hp ho h3 j1
  exact ⟨q, q1, q2, by omega⟩
 ·obtain ⟨k1, k2⟩ := hF.jump (show i < l.length by omega) h3
  rcases am j (dr l i) with hlt | hge
  ·exfalso
   have e1 : enc l m p i = true := by
    unfold enc
    rw [ho, j1]
    simp; omega
   have e2 : enc l m p (dr l i) = false := by
    unfold enc
    rw [ho, j1]
    simp; omega
   rcases nF l m i with hh | ⟨q, hh⟩
   ·rw [oK hh p] at e1; cases e1
   ·obtain ⟨_, _, x3⟩ := jh hF.nest (show i < l.length by omega) hh
    obtain ⟨_, _, y3⟩ := jh hF.nest k1 (k2.trans hh)
    rw [y3 p, ← x3 p, e1] at e2
    cases e2
  ·exact hge
theorem Fine.all {l : List cY} {m h : List Int} (hF : Fine l m h) : Reg l m 0 (l.length - 1) := by
 obtain ⟨l1, l2⟩ := hF.len
 refine ⟨ao _, by omega, fun i h1 h2 h3 => ?_, fun i h1 h2 h3 => ?_⟩
 ·obtain ⟨j, j1, j2, j3, j4, j5⟩ := hF.closed.op_ i (by omega) h3
  refine ⟨j, j1, j2, ?_⟩
  have : j ≠ l.length - 1 := fun e => by
   subst e
   have h5 := hF.last
   have h6 := Gk (l.getD i (0, 0, 0))
   unfold dd at h5
   rw [j4] at h5
   omega
  omega
 ·have := (hF.jump (show i < l.length by omega) h3).1
  omega
def StepsI (v : Int) : Prop := v = -1 ∨ (0 ≤ v ∧ v ≤ 1048577)
theorem fv {a b : Int} (h1 : 0 ≤ a) (h2 : 0 ≤ b) : 0 ≤ dn a b ∧ dn a b ≤ 1048577 := by
 unfold dn
 split <;> omega
theorem xR {w A : Int} (hw : StepsI w) (hA : 1 ≤ A ∧ A ≤ 1000) : 0 ≤ f6 w A ∧ f6 w A ≤ 1048577 := by
 have h1 : 0 ≤ dn w 1 ∧ dn w 1 ≤ 1048577 := by
  rcases hw with rfl | h
  ·decide
  ·exact fv h.1 (by decide)
 unfold f6
 split
 ·omega
 ·exact fv (by decide) (cv (by omega) h1.1)
def wz (b : Int → Int → Int) : Prop := ∀ x y, b x y = x ∨ b x y = y
theorem qN {b : Int → Int → Int} (hb : wz b) {D : Nat → Int} (hD : ∀ k, StepsI (D k)) (k : Nat) {v : Int} (hv : 0 ≤ v ∧ v ≤ 1048577) : ∀ j, StepsI (er b D k v j) := by
 intro j
 unfold er
 split
 ·split
  ·exact .inr hv
  ·rcases hb (D k) v with h | h
   ·rw [h]; exact hD k
   ·rw [h]; exact .inr hv
 ·exact hD j
theorem Gl {b : Int → Int → Int} (hb : wz b) {v : Int} (hv : 0 ≤ v ∧ v ≤ 1048577) : ∀ (ks : List Nat) {D : Nat → Int}, (∀ k, StepsI (D k)) → ∀ k, StepsI (ks.foldl (fun g k => er b g k v) D k)
 | [], D, hD => hD
 | k :: ks, D, hD => Gl hb hv ks (qN hb hD k hv)
theorem ij {W : Nat → Nat → Int} {l : List cY} {m : List Int} {i : Nat} (hr : dH (l.getD i (0, 0, 0)) = true) (hW : dd l i = 21 → StepsI (W (i + 1) (mN m i))) : 0 ≤ eo W l m i ∧ eo W l m i ≤ 1048577 := by
 unfold eo
 split
 ·rename_i h
  refine xR (hW h) ?_
  unfold dJ
  unfold dd at h
  generalize l.getD i (0, 0, 0) = x at *
  obtain ⟨o, A, B⟩ := x
  simp only at h
  subst h
  exact vv hr
 ·omega
theorem fK {b : Int → Int → Int} (hb : wz b) {W : Nat → Nat → Int} {l : List cY} {m : List Int} {i : Nat} {D : Nat → Int} (hD : ∀ k, StepsI (D k)) (hr : dH (l.getD i (0, 0, 0)) = true) (hW : dd l i = 21 → StepsI (W (i + 1) (mN m i))) : ∀ k, StepsI (ej b W l m i D k) := by
 unfold ej
 split
 ·exact hD
 ·rename_i h
  have hi : 0 ≤ D i := by
   rcases hD i with h1 | h1
   ·exact absurd h1 h
   ·exact h1.1
  exact Gl hb (fv hi (ij hr hW).1) _ hD
theorem vw {b : Int → Int → Int} (hb : wz b) {W : Nat → Nat → Int} {l : List cY} {m : List Int} (hr : ∀ i, i < l.length → dH (l.getD i (0, 0, 0)) = true) : ∀ (r i : Nat) {D : Nat → Int}, (∀ k, StepsI (D k)) → r + i ≤ l.length → (∀ k, i ≤ k → k < r + i → dd l k = 21 → StepsI (W (k + 1) (mN m k))) → ∀ k, StepsI (eF b W l m r i D k)
 | 0, i, D, hD, hi, hW => hD
 | r + 1, i, D, hD, hi, hW => vw hb hr r (i + 1) (fK hb hD (hr i (by omega)) (hW i (aq _) (by omega))) (by omega) fun k h1 h2 => hW k (by omega) (by omega)
theorem gw (a : Nat) : ∀ k, StepsI (fe a k) := fun k => by
 unfold fe
 split
 ·exact .inr (by decide)
 ·exact .inl rfl
theorem js {b : Int → Int → Int} (hb : wz b) {l : List cY} {m h : List Int} (hF : Fine l m h) : ∀ (f : Nat) {a z : Nat}, Reg l m a z → StepsI (dX b l m f a z)
 | 0, a, z, hR => .inr (by show 0 ≤ (0 : Int) ∧ (0 : Int) ≤ 1048577; decide)
 | f + 1, a, z, hR => by
  have h1 := hR.le
  have h2 := hR.lt
  exact vw hb (fun i hi => hF.right hi) (z - a) a (gw a) (by omega) (fun k k1 k2 k3 => js hb hF f (hF.reg (by omega) (isOpen_iff.2 (.inl k3)))) z
def bM (x y : Int) : Int := if y > x then y else x
def bL (x y : Int) : Int := if y < x then y else x
theorem eB : wz bM := fun x y => by
 unfold bM
 split
 ·exact .inr rfl
 ·exact .inl rfl
theorem uQ : wz bL := fun x y => by
 unfold bL
 split
 ·exact .inr rfl
 ·exact .inl rfl
theorem ik (n : Nat) {a b : Int} (h1 : -1 ≤ a) (h2 : a ≤ 1048577) (h3 : -1 ≤ b) (h4 : b ≤ 1048577) : d7 n a b = some (dn a b) := by
 unfold d7 dn
 rw [dA (by omega) (by omega)]
structure LD (d : List Int) (D : Nat → Int) (a z : Nat) : Prop where
 len : d.length = z - a + 1
 at_ : ∀ k, a ≤ k → k ≤ z → d.getD (k - a) 0 = D k
theorem LD.put {d : List Int} {D : Nat → Int} {a z : Nat} (h : LD d D a z) (b : Int → Int → Int) {k : Nat} (hk : a ≤ k) (hk2 : k ≤ z) (v : Int) : LD (d.set (k - a) (if d.getD (k - a) 0 = -1 then v else b (d.getD (k - a) 0) v)) (er b D k v) a z := by
 have hl := h.len
 refine ⟨by rw [aP, hl], fun j h1 h2 => ?_⟩
 rw [eb (by omega), h.at_ k hk hk2]
 unfold er
 by_cases e : j = k
 ·subst e
  rw [if_pos rfl, if_pos rfl]
 ·rw [if_neg (by omega), if_neg e, h.at_ j h1 h2]
theorem EA (n : Nat) (x y : Int) : eX n x y = some (bM x y) := rfl
theorem mS (n : Nat) {d : List Int} {k : Nat} (hk : k < d.length) (v : Int) {R : Type} (K : List Int → Option R) :
  (if (decide (0 ≤ (k : Int)) && decide ((k : Int) < (d.length : Int))) = true then (if (d.getD k 0 != (-1)) = true then ((eX n (d.getD k 0) v).bind fun y => if (decide (0 ≤ (k : Int)) && decide ((k : Int) < (d.length : Int))) = true then K (d.set k y) else none) else (if (decide (0 ≤ (k : Int)) && decide ((k : Int) < (d.length : Int))) = true then K (d.set k v) else none)) else none) = K (d.set k (if d.getD k 0 = -1 then v else bM (d.getD k 0) v)) := by
 simp only [if_pos (dc hk), EA, ae]
 by_cases h : d.getD k 0 = -1
 ·rw [if_neg (fun h2 => (ak.1 h2) h), if_pos h]
 ·rw [if_pos (ak.2 h), if_neg h]
theorem nH (n : Nat) (W : ((((List (Int × (Int × Int))) × (List Int)) × Int × Int × Unit) × Unit) → Option Int) {l : List cY} {m : List Int} (hl : l.length < 1000000) (hm : m.length = l.length) {i : Nat} (hi : i < l.length) {w : Int} (hj : m.getD i 0 = ((mN m i : Nat) : Int)) (hW : W (((l, m), ((i + 1 : Nat) : Int), ((mN m i : Nat) : Int), ()), ()) = some w) (hw : StepsI w) (hA : 1 ≤ dJ l i ∧ dJ l i ≤ 1000) : fb n W (l, m) (i : Int) = some (f6 w (dJ l i)) := by
 unfold fb f6
 simp only [ai, di (show i < 1000000 by omega), if_pos (dc hi), if_pos (dc (show i < m.length by omega)), hj, hW, ae]
 have hw2 : -1 ≤ w ∧ w ≤ 1048577 := by rcases hw with rfl | h <;> omega
 rw [ik n hw2.1 hw2.2 (by decide) (by decide), ae]
 have h1 : 0 ≤ dn w 1 ∧ dn w 1 ≤ 1048577 := by
  rcases hw with rfl | h
  ·decide
  ·exact fv h.1 (by decide)
 generalize dn w 1 = x at h1 ⊢
 by_cases hx : x = 1048577
 ·rw [if_pos (by simpa only [ag] using hx), if_pos hx]
 ·rw [if_neg (by simpa only [ag] using hx), if_neg hx]
  unfold dJ at hA ⊢
  generalize (l.getD i (0, 0, 0)).2.1 = A at hA ⊢
  have hb : 0 ≤ A * x ∧ A * x ≤ 1000 * 1048577 := ⟨cv (by omega) h1.1, Int.mul_le_mul hA.2 h1.2 h1.1 (by decide)⟩
  rw [dA (e := A * x) (by omega) (by omega), dA (by omega) (by omega)]
  rfl
theorem Ni (n : Nat) (W : ((((List (Int × (Int × Int))) × (List Int)) × Int × Int × Unit) × Unit) → Option Int) {l : List cY} {m h : List Int} (hF : Fine l m h) {Wp : Nat → Nat → Int} {a z : Nat} (hR : Reg l m a z) {i : Nat} (hi : a ≤ i) (hi2 : i < z) (hW : dd l i = 21 → W (((l, m), ((i + 1 : Nat) : Int), ((mN m i : Nat) : Int), ()), ()) = some (Wp (i + 1) (mN m i)) ∧ StepsI (Wp (i + 1) (mN m i))) {d : List Int} {D : Nat → Int} (hL : LD d D a z) (hD : ∀ k, StepsI (D k)) (zz : Int) :
  ∃ d', LD d' (ej bM Wp l m i D) a z ∧ yS n W zz (i : Int) l m (a : Int) d = some (zz, (i : Int), l, m, (a : Int), d') := by
 obtain ⟨l1, l2⟩ := hF.len
 have hlt := hR.lt
 have hdl := hL.len
 have hat := hL.at_ i hi (by omega)
 have hr := hF.right (show i < l.length by omega)
 have hm := hF.nest.hm
 unfold yS
 simp only [gv hi (show i < 1000000 by omega), ai, di (show i < 1000000 by omega), if_pos (dc (show i < l.length by omega)), if_pos (dc (show i < m.length by omega)), if_pos (dc (show i - a < d.length by omega)), gv (show a ≤ i + 1 by omega) (show i + 1 < 1000000 by omega), hat]
 by_cases hn : D i = -1
 ·refine ⟨d, ?_, ?_⟩
  ·unfold ej
   rw [if_pos hn]
   exact hL
  ·rw [if_pos (by simpa only [ag] using hn)]
 ·rw [if_neg (by simpa only [ag] using hn)]
  have hDi : 0 ≤ D i ∧ D i ≤ 1048577 := by
   rcases hD i with h1 | h1
   ·exact absurd h1 hn
   ·exact h1
  by_cases h21 : (l.getD i (0, 0, 0)).1 = 21
  ·rw [if_pos (show ((l.getD i (0, 0, 0)).1 == 21) = true by simpa only [ag] using h21)]
   obtain ⟨j, j1, j2, j3⟩ := hR.loop i hi hi2 (isOpen_iff.2 (.inl h21))
   have hj : mN m i = j := by unfold mN; rw [j1]; rfl
   have hA : 1 ≤ dJ l i ∧ dJ l i ≤ 1000 := by
    unfold dJ
    generalize l.getD i (0, 0, 0) = x at *
    obtain ⟨o, A, B⟩ := x
    simp only at h21
    subst h21
    exact vv hr
   obtain ⟨w1, w2⟩ := hW h21
   have hc : eo Wp l m i = f6 (Wp (i + 1) (mN m i)) (dJ l i) := by unfold eo; rw [if_pos h21]
   have hlo := xR w2 hA
   rw [nH n W (by omega) hm (by omega) (by rw [hj]; exact j1) w1 w2 hA, ae, ← hc]
   rw [← hc] at hlo
   rw [ik n (by omega) hDi.2 (by omega) hlo.2, ae]
   simp only [j1, di (show j < 1000000 by omega), gv (show a ≤ j + 1 by omega) (show j + 1 < 1000000 by omega), ai]
   refine ⟨_, ?_, mS n (show j + 1 - a < d.length by omega) (dn (D i) (eo Wp l m i)) fun d' => some (zz, (i : Int), l, m, (a : Int), d')⟩
   have := hL.put bM (show a ≤ j + 1 by omega) (show j + 1 ≤ z by omega) (dn (D i) (eo Wp l m i))
   unfold ej eD
   rw [if_neg hn, if_pos h21, hj]
   exact this
  ·rw [if_neg (show ¬ ((l.getD i (0, 0, 0)).1 == 21) = true by simpa only [ag] using h21)]
   have hc : eo Wp l m i = 1 := by unfold eo; rw [if_neg h21]
   rw [ik n (by omega) hDi.2 (by decide) (by decide)]
   simp only [ae]
   by_cases h19 : (l.getD i (0, 0, 0)).1 = 19
   ·rw [if_pos (show ((l.getD i (0, 0, 0)).1 == 19) = true by simpa only [ag] using h19)]
    have hjt := hR.jump i hi hi2 (.inl h19)
    have hji : i < dr l i := by unfold dr; omega
    simp only [nR (show l.length < 1000000 by omega) (show i < l.length by omega) hr (.inl h19), gv (show a ≤ dr l i by omega) (show dr l i < 1000000 by omega), ai]
    refine ⟨_, ?_, mS n (show dr l i - a < d.length by omega) (dn (D i) 1) fun d' => some (zz, (i : Int), l, m, (a : Int), d')⟩
    have := hL.put bM (show a ≤ dr l i by omega) hjt (dn (D i) 1)
    unfold ej eD
    rw [if_neg hn, if_neg h21, if_pos h19, hc]
    exact this
   ·rw [if_neg (show ¬ ((l.getD i (0, 0, 0)).1 == 19) = true by simpa only [ag] using h19)]
    by_cases h20 : (l.getD i (0, 0, 0)).1 = 20
    ·rw [if_pos (show ((l.getD i (0, 0, 0)).1 == 20) = true by simpa only [ag] using h20)]
     have hjt := hR.jump i hi hi2 (.inr h20)
     have hji : i < dr l i := by unfold dr; omega
     simp only [nR (show l.length < 1000000 by omega) (show i < l.length by omega) hr (.inr h20), gv (show a ≤ dr l i by omega) (show dr l i < 1000000 by omega), ai]
     have h1 := hL.put bM (show a ≤ dr l i by omega) hjt (dn (D i) 1)
     have h2 := h1.put bM (show a ≤ i + 1 by omega) (show i + 1 ≤ z by omega) (dn (D i) 1)
     refine ⟨_, ?_, (mS n (show dr l i - a < d.length by omega) (dn (D i) 1) fun d1 => (if (decide (0 ≤ ((i + 1 - a : Nat) : Int)) && decide (((i + 1 - a : Nat) : Int) < (d1.length : Int))) = true then (if (d1.getD (i + 1 - a) 0 != (-1)) = true then ((eX n (d1.getD (i + 1 - a) 0) (dn (D i) 1)).bind fun y => if (decide (0 ≤ ((i + 1 - a : Nat) : Int)) && decide (((i + 1 - a : Nat) : Int) < (d1.length : Int))) = true then some (zz, (i : Int), l, m, (a : Int), d1.set (i + 1 - a) y) else none) else (if (decide (0 ≤ ((i + 1 - a : Nat) : Int)) && decide (((i + 1 - a : Nat) : Int) < (d1.length : Int))) = true then some (zz, (i : Int), l, m, (a : Int), d1.set (i + 1 - a) (dn (D i) 1)) else none)) else none)).trans (mS n (by rw [aP]; omega) (dn (D i) 1) fun d' => some (zz, (i : Int), l, m, (a : Int), d'))⟩
     unfold ej eD
     rw [if_neg hn, if_neg h21, if_neg h19, if_pos h20, hc]
     exact h2
    ·rw [if_neg (show ¬ ((l.getD i (0, 0, 0)).1 == 20) = true by simpa only [ag] using h20)]
     refine ⟨_, ?_, mS n (show i + 1 - a < d.length by omega) (dn (D i) 1) fun d' => some (zz, (i : Int), l, m, (a : Int), d')⟩
     have := hL.put bM (show a ≤ i + 1 by omega) (show i + 1 ≤ z by omega) (dn (D i) 1)
     unfold ej eD
     rw [if_neg hn, if_neg h21, if_neg h19, if_neg h20, hc]
     exact this
theorem uR (n : Nat) (x y : Int) : d9 n x y = some (bM x y) := rfl
theorem mT (n : Nat) {d : List Int} {k : Nat} (hk : k < d.length) (v : Int) {R : Type} (K : List Int → Option R) :
  (if (decide (0 ≤ (k : Int)) && decide ((k : Int) < (d.length : Int))) = true then (if (d.getD k 0 != (-1)) = true then ((d9 n (d.getD k 0) v).bind fun y => if (decide (0 ≤ (k : Int)) && decide ((k : Int) < (d.length : Int))) = true then K (d.set k y) else none) else (if (decide (0 ≤ (k : Int)) && decide ((k : Int) < (d.length : Int))) = true then K (d.set k v) else none)) else none) = K (d.set k (if d.getD k 0 = -1 then v else bM (d.getD k 0) v)) := by
 simp only [if_pos (dc hk), uR, ae]
 by_cases h : d.getD k 0 = -1
 ·rw [if_neg (fun h2 => (ak.1 h2) h), if_pos h]
 ·rw [if_pos (ak.2 h), if_neg h]
theorem pV (n : Nat) (W : ((((List (Int × (Int × Int))) × (List Int)) × Int × Int × Unit) × Unit) → Option Int) {l : List cY} {m : List Int} (hl : l.length < 1000000) (hm : m.length = l.length) {i : Nat} (hi : i < l.length) {w : Int} (hj : m.getD i 0 = ((mN m i : Nat) : Int)) (hW : W (((l, m), ((i + 1 : Nat) : Int), ((mN m i : Nat) : Int), ()), ()) = some w) (hw : StepsI w) (hA : 1 ≤ dJ l i ∧ dJ l i ≤ 1000) : fH n W (l, m) (i : Int) = some (f6 w (dJ l i)) := by
 unfold fH f6
 simp only [ai, di (show i < 1000000 by omega), if_pos (dc hi), if_pos (dc (show i < m.length by omega)), hj, hW, ae]
 have hw2 : -1 ≤ w ∧ w ≤ 1048577 := by rcases hw with rfl | h <;> omega
 rw [ik n hw2.1 hw2.2 (by decide) (by decide), ae]
 have h1 : 0 ≤ dn w 1 ∧ dn w 1 ≤ 1048577 := by
  rcases hw with rfl | h
  ·decide
  ·exact fv h.1 (by decide)
 generalize dn w 1 = x at h1 ⊢
 by_cases hx : x = 1048577
 ·rw [if_pos (by simpa only [ag] using hx), if_pos hx]
 ·rw [if_neg (by simpa only [ag] using hx), if_neg hx]
  unfold dJ at hA ⊢
  generalize (l.getD i (0, 0, 0)).2.1 = A at hA ⊢
  have hb : 0 ≤ A * x ∧ A * x ≤ 1000 * 1048577 := ⟨cv (by omega) h1.1, Int.mul_le_mul hA.2 h1.2 h1.1 (by decide)⟩
  rw [dA (e := A * x) (by omega) (by omega), dA (by omega) (by omega)]
  rfl
theorem Nj (n : Nat) (W : ((((List (Int × (Int × Int))) × (List Int)) × Int × Int × Unit) × Unit) → Option Int) {l : List cY} {m h : List Int} (hF : Fine l m h) {Wp : Nat → Nat → Int} {a z : Nat} (hR : Reg l m a z) {i : Nat} (hi : a ≤ i) (hi2 : i < z) (hW : dd l i = 21 → W (((l, m), ((i + 1 : Nat) : Int), ((mN m i : Nat) : Int), ()), ()) = some (Wp (i + 1) (mN m i)) ∧ StepsI (Wp (i + 1) (mN m i))) {d : List Int} {D : Nat → Int} (hL : LD d D a z) (hD : ∀ k, StepsI (D k)) (zz : Int) :
  ∃ d', LD d' (ej bM Wp l m i D) a z ∧ yW n W zz (i : Int) l m (a : Int) d = some (zz, (i : Int), l, m, (a : Int), d') := by
 obtain ⟨l1, l2⟩ := hF.len
 have hlt := hR.lt
 have hdl := hL.len
 have hat := hL.at_ i hi (by omega)
 have hr := hF.right (show i < l.length by omega)
 have hm := hF.nest.hm
 unfold yW
 simp only [gv hi (show i < 1000000 by omega), ai, di (show i < 1000000 by omega), if_pos (dc (show i < l.length by omega)), if_pos (dc (show i < m.length by omega)), if_pos (dc (show i - a < d.length by omega)), gv (show a ≤ i + 1 by omega) (show i + 1 < 1000000 by omega), hat]
 by_cases hn : D i = -1
 ·refine ⟨d, ?_, ?_⟩
  ·unfold ej
   rw [if_pos hn]
   exact hL
  ·rw [if_pos (by simpa only [ag] using hn)]
 ·rw [if_neg (by simpa only [ag] using hn)]
  have hDi : 0 ≤ D i ∧ D i ≤ 1048577 := by
   rcases hD i with h1 | h1
   ·exact absurd h1 hn
   ·exact h1
  by_cases h21 : (l.getD i (0, 0, 0)).1 = 21
  ·rw [if_pos (show ((l.getD i (0, 0, 0)).1 == 21) = true by simpa only [ag] using h21)]
   obtain ⟨j, j1, j2, j3⟩ := hR.loop i hi hi2 (isOpen_iff.2 (.inl h21))
   have hj : mN m i = j := by unfold mN; rw [j1]; rfl
   have hA : 1 ≤ dJ l i ∧ dJ l i ≤ 1000 := by
    unfold dJ
    generalize l.getD i (0, 0, 0) = x at *
    obtain ⟨o, A, B⟩ := x
    simp only at h21
    subst h21
    exact vv hr
   obtain ⟨w1, w2⟩ := hW h21
   have hc : eo Wp l m i = f6 (Wp (i + 1) (mN m i)) (dJ l i) := by unfold eo; rw [if_pos h21]
   have hlo := xR w2 hA
   rw [pV n W (by omega) hm (by omega) (by rw [hj]; exact j1) w1 w2 hA, ae, ← hc]
   rw [← hc] at hlo
   rw [ik n (by omega) hDi.2 (by omega) hlo.2, ae]
   simp only [j1, di (show j < 1000000 by omega), gv (show a ≤ j + 1 by omega) (show j + 1 < 1000000 by omega), ai]
   refine ⟨_, ?_, mT n (show j + 1 - a < d.length by omega) (dn (D i) (eo Wp l m i)) fun d' => some (zz, (i : Int), l, m, (a : Int), d')⟩
   have := hL.put bM (show a ≤ j + 1 by omega) (show j + 1 ≤ z by omega) (dn (D i) (eo Wp l m i))
   unfold ej eD
   rw [if_neg hn, if_pos h21, hj]
   exact this
  ·rw [if_neg (show ¬ ((l.getD i (0, 0, 0)).1 == 21) = true by simpa only [ag] using h21)]
   have hc : eo Wp l m i = 1 := by unfold eo; rw [if_neg h21]
   rw [ik n (by omega) hDi.2 (by decide) (by decide)]
   simp only [ae]
   by_cases h19 : (l.getD i (0, 0, 0)).1 = 19
   ·rw [if_pos (show ((l.getD i (0, 0, 0)).1 == 19) = true by simpa only [ag] using h19)]
    have hjt := hR.jump i hi hi2 (.inl h19)
    have hji : i < dr l i := by unfold dr; omega
    simp only [nR (show l.length < 1000000 by omega) (show i < l.length by omega) hr (.inl h19), gv (show a ≤ dr l i by omega) (show dr l i < 1000000 by omega), ai]
    refine ⟨_, ?_, mT n (show dr l i - a < d.length by omega) (dn (D i) 1) fun d' => some (zz, (i : Int), l, m, (a : Int), d')⟩
    have := hL.put bM (show a ≤ dr l i by omega) hjt (dn (D i) 1)
    unfold ej eD
    rw [if_neg hn, if_neg h21, if_pos h19, hc]
    exact this
   ·rw [if_neg (show ¬ ((l.getD i (0, 0, 0)).1 == 19) = true by simpa only [ag] using h19)]
    by_cases h20 : (l.getD i (0, 0, 0)).1 = 20
    ·rw [if_pos (show ((l.getD i (0, 0, 0)).1 == 20) = true by simpa only [ag] using h20)]
     have hjt := hR.jump i hi hi2 (.inr h20)
     have hji : i < dr l i := by unfold dr; omega
     simp only [nR (show l.length < 1000000 by omega) (show i < l.length by omega) hr (.inr h20), gv (show a ≤ dr l i by omega) (show dr l i < 1000000 by omega), ai]
     have h1 := hL.put bM (show a ≤ dr l i by omega) hjt (dn (D i) 1)
     have h2 := h1.put bM (show a ≤ i + 1 by omega) (show i + 1 ≤ z by omega) (dn (D i) 1)
     refine ⟨_, ?_, (mT n (show dr l i - a < d.length by omega) (dn (D i) 1) fun d1 => (if (decide (0 ≤ ((i + 1 - a : Nat) : Int)) && decide (((i + 1 - a : Nat) : Int) < (d1.length : Int))) = true then (if (d1.getD (i + 1 - a) 0 != (-1)) = true then ((d9 n (d1.getD (i + 1 - a) 0) (dn (D i) 1)).bind fun y => if (decide (0 ≤ ((i + 1 - a : Nat) : Int)) && decide (((i + 1 - a : Nat) : Int) < (d1.length : Int))) = true then some (zz, (i : Int), l, m, (a : Int), d1.set (i + 1 - a) y) else none) else (if (decide (0 ≤ ((i + 1 - a : Nat) : Int)) && decide (((i + 1 - a : Nat) : Int) < (d1.length : Int))) = true then some (zz, (i : Int), l, m, (a : Int), d1.set (i + 1 - a) (dn (D i) 1)) else none)) else none)).trans (mT n (by rw [aP]; omega) (dn (D i) 1) fun d' => some (zz, (i : Int), l, m, (a : Int), d'))⟩
     unfold ej eD
     rw [if_neg hn, if_neg h21, if_neg h19, if_pos h20, hc]
     exact h2
    ·rw [if_neg (show ¬ ((l.getD i (0, 0, 0)).1 == 20) = true by simpa only [ag] using h20)]
     refine ⟨_, ?_, mT n (show i + 1 - a < d.length by omega) (dn (D i) 1) fun d' => some (zz, (i : Int), l, m, (a : Int), d')⟩
     have := hL.put bM (show a ≤ i + 1 by omega) (show i + 1 ≤ z by omega) (dn (D i) 1)
     unfold ej eD
     rw [if_neg hn, if_neg h21, if_neg h19, if_neg h20, hc]
     exact this
def pA (d : List Int) : Nat → Nat → List Int
 | 0, _ => d
 | r + 1, k => pA (d.set (k + 1) (-1)) r (k + 1)
theorem EB : ∀ (r k : Nat) {d : List Int}, (pA d r k).length = d.length
 | 0, k, d => rfl
 | r + 1, k, d => (EB r (k + 1)).trans (aP ..)
theorem Gm : ∀ (r k : Nat) {d : List Int} (j : Nat), k + r < d.length → (pA d r k).getD j 0 = if k < j ∧ j ≤ k + r then -1 else d.getD j 0
 | 0, k, d, j, h => by rw [if_neg (by omega)]; rfl
 | r + 1, k, d, j, h => by
  rw [show pA d (r + 1) k = pA (d.set (k + 1) (-1)) r (k + 1) from rfl, Gm r (k + 1) j (by rw [aP]; omega), eb (by omega)]
  by_cases h1 : k + 1 < j ∧ j ≤ k + 1 + r
  ·rw [if_pos h1, if_pos (by omega)]
  ·rw [if_neg h1]
   by_cases h2 : j = k + 1
   ·rw [if_pos h2, if_pos (by omega)]
   ·rw [if_neg h2, if_neg (by omega)]
theorem zB {a z : Nat} (h : a ≤ z) : LD (pA (List.replicate (z - a + 1) 0) (z - a) 0) (fe a) a z := by
 refine ⟨by rw [EB, bp], fun k h1 h2 => ?_⟩
 rw [Gm _ _ _ (by rw [bp]; omega)]
 unfold fe
 by_cases e : k = a
 ·subst e
  rw [if_neg (by omega), if_pos rfl, bf]
  rfl
 ·rw [if_pos (by omega), if_neg e]
theorem Gn {a z : Nat} (h : a ≤ z) (hz : z < 1000000) : wrap .i64 (wrap .i64 ((z : Int) - (a : Int)) + 1) = ((z - a + 1 : Nat) : Int) := by
 rw [gv h hz, di (by omega)]
theorem B4 (n : Nat) (W : ((((List (Int × (Int × Int))) × (List Int)) × Int × Int × Unit) × Unit) → Option Int) {l : List cY} {m : List Int} {zz aa : Int} {c : Nat} (hc : c < 1000000) : ∀ (f k : Nat) {d : List Int}, d.length = c + 1 → k ≤ c → c < f + k →
  it (fun F (x : Int × Int × Int × (List (Int × (Int × Int))) × (List Int) × Int × (List Int)) => ql n W F x.1 x.2.1 x.2.2.1 x.2.2.2.1 x.2.2.2.2.1 x.2.2.2.2.2.1 x.2.2.2.2.2.2) f (zz, (c : Int), (k : Int), l, m, aa, d) = some (zz, l, m, aa, pA d (c - k) k)
 | 0, k, d, hd, hk, hf => by omega
 | f + 1, k, d, hd, hk, hf => by
  have ih := fun {d : List Int} => B4 n W (l := l) (m := m) (zz := zz) (aa := aa) hc f (k + 1) (d := d)
  show ql n W (it _ f) zz (c : Int) (k : Int) l m aa d = _
  generalize it (fun F (x : Int × Int × Int × (List (Int × (Int × Int))) × (List Int) × Int × (List Int)) => ql n W F x.1 x.2.1 x.2.2.1 x.2.2.2.1 x.2.2.2.2.1 x.2.2.2.2.2.1 x.2.2.2.2.2.2) f = F at ih ⊢
  unfold ql
  rcases am k c with hlt | hge
  ·rw [if_pos (af (by omega)), di (by omega), if_pos (dc (by omega)), ai, ih (by rw [aP, hd]) (by omega) (by omega), show c - k = (c - (k + 1)) + 1 by omega]
   rfl
  ·have : k = c := by omega
   subst this
   rw [if_neg (by simp), bf]
   rfl
theorem EC (n : Nat) (W : ((((List (Int × (Int × Int))) × (List Int)) × Int × Int × Unit) × Unit) → Option Int) {l : List cY} {m h : List Int} (hF : Fine l m h) {Wp : Nat → Nat → Int} {a z : Nat} (hR : Reg l m a z) (hW : ∀ i, a ≤ i → i < z → dd l i = 21 → W (((l, m), ((i + 1 : Nat) : Int), ((mN m i : Nat) : Int), ()), ()) = some (Wp (i + 1) (mN m i)) ∧ StepsI (Wp (i + 1) (mN m i))) : ∀ (f i : Nat) {d : List Int} {D : Nat → Int}, LD d D a z → (∀ k, StepsI (D k)) → a ≤ i → i ≤ z → z < f + i → ∃ d', LD d' (eF bM Wp l m (z - i) i D) a z ∧
  it (fun F (x : Int × Int × (List (Int × (Int × Int))) × (List Int) × Int × (List Int)) => qm n W F x.1 x.2.1 x.2.2.1 x.2.2.2.1 x.2.2.2.2.1 x.2.2.2.2.2) f ((z : Int), (i : Int), l, m, (a : Int), d) = some ((z : Int), l, m, (a : Int), d')
 | 0, i, d, D, hL, hD, h1, h2, hf => by omega
 | f + 1, i, d, D, hL, hD, h1, h2, hf => by
  have ih := fun {d : List Int} {D : Nat → Int} => EC n W hF hR hW f (i + 1) (d := d) (D := D)
  show ∃ d', _ ∧ qm n W (it _ f) (z : Int) (i : Int) l m (a : Int) d = _
  generalize it (fun F (x : Int × Int × (List (Int × (Int × Int))) × (List Int) × Int × (List Int)) => qm n W F x.1 x.2.1 x.2.2.1 x.2.2.2.1 x.2.2.2.2.1 x.2.2.2.2.2) f = F at ih ⊢
  obtain ⟨l1, l2⟩ := hF.len
  have hlt := hR.lt
  unfold qm
  rcases am i z with hiz | hge
  ·obtain ⟨d1, k1, k2⟩ := Ni n W hF hR h1 hiz (hW i h1 hiz) hL hD (z : Int)
   rw [if_pos (af (by omega)), k2, ae]
   simp only
   rw [di (by omega), show z - i = (z - (i + 1)) + 1 by omega]
   exact ih k1 (fK eB hD (hF.right (by omega)) fun h => (hW i h1 hiz h).2) (by omega) (by omega) (by omega)
  ·have : i = z := by omega
   subst this
   rw [if_neg (by simp), bf]
   exact ⟨d, hL, rfl⟩
theorem PP (n : Nat) (W : ((((List (Int × (Int × Int))) × (List Int)) × Int × Int × Unit) × Unit) → Option Int) {l : List cY} {m h : List Int} (hF : Fine l m h) (hn : l.length < n) {Wp : Nat → Nat → Int} {a z : Nat} (hR : Reg l m a z) (hW : ∀ i, a ≤ i → i < z → dd l i = 21 → W (((l, m), ((i + 1 : Nat) : Int), ((mN m i : Nat) : Int), ()), ()) = some (Wp (i + 1) (mN m i)) ∧ StepsI (Wp (i + 1) (mN m i))) :
  rL n W (l, m) (a : Int) (z : Int) = some (eF bM Wp l m (z - a) a (fe a) z) := by
 obtain ⟨l1, l2⟩ := hF.len
 have hle := hR.le
 have hlt := hR.lt
 unfold rL xl xn
 have c1 : (decide (0 ≤ ((z - a + 1 : Nat) : Int)) && (((z - a + 1 : Nat) : Int) == ((z - a + 1 : Nat) : Int)) && decide (((z - a + 1 : Nat) : Int) * (8 : Int) ≤ 140737488355328) && decide (1 ≤ 8)) = true := by simp; omega
 have c2 : (decide (0 ≤ 1) && decide (1 ≤ ((z - a + 1 : Nat) : Int))) = true := by simp; omega
 simp only [Gn hle (show z < 1000000 by omega), ai, bp, cw]
 have h0 := B4 n W (l := l) (m := m) (zz := (z : Int)) (aa := (a : Int)) (c := z - a) (by omega) n 0 (d := List.replicate (z - a + 1) 0) (by rw [bp]) (ao _) (by omega)
 rw [show ((0 : Nat) : Int) = 0 from rfl, bu] at h0
 obtain ⟨d', k1, k2⟩ := EC n W hF hR hW n a (zB hle) (gw a) (aq _) hle (by omega)
 rw [if_pos c1, if_pos c2, h0, ae]
 simp only
 rw [k2, ae]
 simp only [gv hle (show z < 1000000 by omega), ai]
 rw [if_pos (dc (by rw [k1.len]; omega)), k1.at_ z hle (aq _)]
theorem Gp (n : Nat) {l : List cY} {m h : List Int} (hF : Fine l m h) (hn : l.length < n) : ∀ (g : Nat) {a z : Nat}, Reg l m a z → z - a < g →
  it (fun (W : ((((List (Int × (Int × Int))) × (List Int)) × Int × Int × Unit) × Unit) → Option Int) x => rL n W x.1.1 x.1.2.1 x.1.2.2.1) g (((l, m), (a : Int), (z : Int), ()), ()) = some (dX bM l m g a z)
 | 0, a, z, hR, hg => by omega
 | g + 1, a, z, hR, hg => by
  have hlt := hR.lt
  have ih := fun {a z : Nat} => Gp n hF hn g (a := a) (z := z)
  show rL n (it _ g) (l, m) (a : Int) (z : Int) = _
  refine PP n _ hF hn hR fun i h1 h2 h3 => ?_
  have ho := isOpen_iff.2 (Or.inl (b := dd l i = 23) h3)
  have hRi := hF.reg (show i < l.length by omega) ho
  obtain ⟨j, j1, j2, j3⟩ := hR.loop i h1 h2 ho
  have hj : mN m i = j := by unfold mN; rw [j1]; rfl
  exact ⟨ih hRi (by omega), js eB hF g hRi⟩
theorem Nk (n : Nat) {l : List cY} {m h : List Int} (hF : Fine l m h) (hn : l.length < n) {a z : Nat} (hR : Reg l m a z) : Hv n (l, m) (a : Int) (z : Int) = some (dX bM l m n a z) := by
 have := hR.lt
 exact Gp n hF hn n hR (by omega)
theorem B5 (n : Nat) (W : ((((List (Int × (Int × Int))) × (List Int)) × Int × Int × Unit) × Unit) → Option Int) {l : List cY} {m : List Int} {zz aa : Int} {c : Nat} (hc : c < 1000000) : ∀ (f k : Nat) {d : List Int}, d.length = c + 1 → k ≤ c → c < f + k →
  it (fun F (x : Int × Int × Int × (List (Int × (Int × Int))) × (List Int) × Int × (List Int)) => qt n W F x.1 x.2.1 x.2.2.1 x.2.2.2.1 x.2.2.2.2.1 x.2.2.2.2.2.1 x.2.2.2.2.2.2) f (zz, (c : Int), (k : Int), l, m, aa, d) = some (zz, l, m, aa, pA d (c - k) k)
 | 0, k, d, hd, hk, hf => by omega
 | f + 1, k, d, hd, hk, hf => by
  have ih := fun {d : List Int} => B5 n W (l := l) (m := m) (zz := zz) (aa := aa) hc f (k + 1) (d := d)
  show qt n W (it _ f) zz (c : Int) (k : Int) l m aa d = _
  generalize it (fun F (x : Int × Int × Int × (List (Int × (Int × Int))) × (List Int) × Int × (List Int)) => qt n W F x.1 x.2.1 x.2.2.1 x.2.2.2.1 x.2.2.2.2.1 x.2.2.2.2.2.1 x.2.2.2.2.2.2) f = F at ih ⊢
  unfold qt
  rcases am k c with hlt | hge
  ·rw [if_pos (af (by omega)), di (by omega), if_pos (dc (by omega)), ai, ih (by rw [aP, hd]) (by omega) (by omega), show c - k = (c - (k + 1)) + 1 by omega]
   rfl
  ·have : k = c := by omega
   subst this
   rw [if_neg (by simp), bf]
   rfl
theorem ED (n : Nat) (W : ((((List (Int × (Int × Int))) × (List Int)) × Int × Int × Unit) × Unit) → Option Int) {l : List cY} {m h : List Int} (hF : Fine l m h) {Wp : Nat → Nat → Int} {a z : Nat} (hR : Reg l m a z) (hW : ∀ i, a ≤ i → i < z → dd l i = 21 → W (((l, m), ((i + 1 : Nat) : Int), ((mN m i : Nat) : Int), ()), ()) = some (Wp (i + 1) (mN m i)) ∧ StepsI (Wp (i + 1) (mN m i))) : ∀ (f i : Nat) {d : List Int} {D : Nat → Int}, LD d D a z → (∀ k, StepsI (D k)) → a ≤ i → i ≤ z → z < f + i → ∃ d', LD d' (eF bM Wp l m (z - i) i D) a z ∧
  it (fun F (x : Int × Int × (List (Int × (Int × Int))) × (List Int) × Int × (List Int)) => qu n W F x.1 x.2.1 x.2.2.1 x.2.2.2.1 x.2.2.2.2.1 x.2.2.2.2.2) f ((z : Int), (i : Int), l, m, (a : Int), d) = some ((z : Int), l, m, (a : Int), d')
 | 0, i, d, D, hL, hD, h1, h2, hf => by omega
 | f + 1, i, d, D, hL, hD, h1, h2, hf => by
  have ih := fun {d : List Int} {D : Nat → Int} => ED n W hF hR hW f (i + 1) (d := d) (D := D)
  show ∃ d', _ ∧ qu n W (it _ f) (z : Int) (i : Int) l m (a : Int) d = _
  generalize it (fun F (x : Int × Int × (List (Int × (Int × Int))) × (List Int) × Int × (List Int)) => qu n W F x.1 x.2.1 x.2.2.1 x.2.2.2.1 x.2.2.2.2.1 x.2.2.2.2.2) f = F at ih ⊢
  obtain ⟨l1, l2⟩ := hF.len
  have hlt := hR.lt
  unfold qu
  rcases am i z with hiz | hge
  ·obtain ⟨d1, k1, k2⟩ := Nj n W hF hR h1 hiz (hW i h1 hiz) hL hD (z : Int)
   rw [if_pos (af (by omega)), k2, ae]
   simp only
   rw [di (by omega), show z - i = (z - (i + 1)) + 1 by omega]
   exact ih k1 (fK eB hD (hF.right (by omega)) fun h => (hW i h1 hiz h).2) (by omega) (by omega) (by omega)
  ·have : i = z := by omega
   subst this
   rw [if_neg (by simp), bf]
   exact ⟨d, hL, rfl⟩
theorem PQ (n : Nat) (W : ((((List (Int × (Int × Int))) × (List Int)) × Int × Int × Unit) × Unit) → Option Int) {l : List cY} {m h : List Int} (hF : Fine l m h) (hn : l.length < n) {Wp : Nat → Nat → Int} {a z : Nat} (hR : Reg l m a z) (hW : ∀ i, a ≤ i → i < z → dd l i = 21 → W (((l, m), ((i + 1 : Nat) : Int), ((mN m i : Nat) : Int), ()), ()) = some (Wp (i + 1) (mN m i)) ∧ StepsI (Wp (i + 1) (mN m i))) :
  rM n W (l, m) (a : Int) (z : Int) = some (eF bM Wp l m (z - a) a (fe a) z) := by
 obtain ⟨l1, l2⟩ := hF.len
 have hle := hR.le
 have hlt := hR.lt
 unfold rM xw xy
 have c1 : (decide (0 ≤ ((z - a + 1 : Nat) : Int)) && (((z - a + 1 : Nat) : Int) == ((z - a + 1 : Nat) : Int)) && decide (((z - a + 1 : Nat) : Int) * (8 : Int) ≤ 140737488355328) && decide (1 ≤ 8)) = true := by simp; omega
 have c2 : (decide (0 ≤ 1) && decide (1 ≤ ((z - a + 1 : Nat) : Int))) = true := by simp; omega
 simp only [Gn hle (show z < 1000000 by omega), ai, bp, cw]
 have h0 := B5 n W (l := l) (m := m) (zz := (z : Int)) (aa := (a : Int)) (c := z - a) (by omega) n 0 (d := List.replicate (z - a + 1) 0) (by rw [bp]) (ao _) (by omega)
 rw [show ((0 : Nat) : Int) = 0 from rfl, bu] at h0
 obtain ⟨d', k1, k2⟩ := ED n W hF hR hW n a (zB hle) (gw a) (aq _) hle (by omega)
 rw [if_pos c1, if_pos c2, h0, ae]
 simp only
 rw [k2, ae]
 simp only [gv hle (show z < 1000000 by omega), ai]
 rw [if_pos (dc (by rw [k1.len]; omega)), k1.at_ z hle (aq _)]
theorem Gq (n : Nat) {l : List cY} {m h : List Int} (hF : Fine l m h) (hn : l.length < n) : ∀ (g : Nat) {a z : Nat}, Reg l m a z → z - a < g →
  it (fun (W : ((((List (Int × (Int × Int))) × (List Int)) × Int × Int × Unit) × Unit) → Option Int) x => rM n W x.1.1 x.1.2.1 x.1.2.2.1) g (((l, m), (a : Int), (z : Int), ()), ()) = some (dX bM l m g a z)
 | 0, a, z, hR, hg => by omega
 | g + 1, a, z, hR, hg => by
  have hlt := hR.lt
  have ih := fun {a z : Nat} => Gq n hF hn g (a := a) (z := z)
  show rM n (it _ g) (l, m) (a : Int) (z : Int) = _
  refine PQ n _ hF hn hR fun i h1 h2 h3 => ?_
  have ho := isOpen_iff.2 (Or.inl (b := dd l i = 23) h3)
  have hRi := hF.reg (show i < l.length by omega) ho
  obtain ⟨j, j1, j2, j3⟩ := hR.loop i h1 h2 ho
  have hj : mN m i = j := by unfold mN; rw [j1]; rfl
  exact ⟨ih hRi (by omega), js eB hF g hRi⟩
theorem Nl (n : Nat) {l : List cY} {m h : List Int} (hF : Fine l m h) (hn : l.length < n) {a z : Nat} (hR : Reg l m a z) : Hw n (l, m) (a : Int) (z : Int) = some (dX bM l m n a z) := by
 have := hR.lt
 exact Gq n hF hn n hR (by omega)
theorem Mp {P : Nat → Prop} : ∀ {n : Nat}, P n → ∃ k, k ≤ n ∧ P k ∧ ∀ j, j < k → ¬ P j := by
 intro n
 induction n using Nat.strongRecOn with
 | _ n ih =>
  intro hn
  by_cases h : ∃ j, j < n ∧ P j
  ·obtain ⟨j, j1, j2⟩ := h
   obtain ⟨k, k1, k2, k3⟩ := ih j j1 j2
   exact ⟨k, by omega, k2, k3⟩
  ·exact ⟨n, aq _, hn, fun j hj hp => h ⟨j, hj, hp⟩⟩
theorem EE {s : List Bool} {q k : Nat} (h : (s.set q true).getD k false = true) : s.getD k false = true ∨ k = q := by
 by_cases e : k = q
 ·exact .inr e
 ·refine .inl ?_
  rw [ar, List.getElem?_set_ne (fun h => e h.symm)] at h
  rw [ar]
  exact h
theorem zC {t : ByteArray} : ∀ (ks : List Nat) {f : gD} {k : Nat}, (ks.foldl (fun g q => gK q t g) f).2.1.getD k false = true → f.2.1.getD k false = true ∨ k ∈ ks
 | [], f, k, h => .inl h
 | q :: ks, f, k, h => by
  rcases zC ks h with h1 | h1
  ·rcases EE h1 with h2 | h2
   ·exact .inl h2
   ·exact .inr (by rw [h2]; exact aB)
  ·exact .inr (ax _ h1)
theorem CE {l : List cY} {m : List Int} {i : Nat} {f f' : gD} (hs : f0 l m i f = .inr f') : f.2.1.getD i false = true ∧ ∀ k, f'.2.1.getD k false = true → f.2.1.getD k false = true ∨ k ∈ fd l i := by
 unfold f0 at hs
 split at hs
 ·cases hs
 ·rename_i h1
  refine ⟨by simpa using h1, fun k hk => ?_⟩
  split at hs
  ·cases hs
  ·split at hs
   ·cases hs
   ·split at hs
    ·cases hs
    ·cases hs
     exact zC _ hk
theorem uS {l : List cY} {m : List Int} : ∀ (r i : Nat) {f f' : gD}, iK l m r i f = .inr f' → (∀ k, f.2.1.getD k false = true → k = 0 ∨ ∃ p, p < i ∧ k ∈ fd l p) → ∀ k, i ≤ k → k < i + r → k = 0 ∨ ∃ p, p < k ∧ k ∈ fd l p
 | 0, i, f, f', hs, hI, k, h1, h2 => by omega
 | r + 1, i, f, f', hs, hI, k, h1, h2 => by
  simp only [iK] at hs
  cases hq : f0 l m i f with
  | inl e => rw [hq] at hs; cases hs
  | inr f1 =>
   rw [hq] at hs
   obtain ⟨a1, a2⟩ := CE hq
   by_cases e : k = i
   ·subst e
    exact hI k a1
   ·refine uS r (i + 1) hs (fun k hk => ?_) k (by omega) (by omega)
    rcases a2 k hk with h3 | h3
    ·rcases hI k h3 with h4 | ⟨p, p1, p2⟩
     ·exact .inl h4
     ·exact .inr ⟨p, by omega, p2⟩
    ·exact .inr ⟨i, by omega, h3⟩
def xS (l : List cY) : Prop := ∀ k, 0 < k → k < l.length → ∃ p, p < k ∧ k ∈ fd l p
theorem AV {l : List cY} (h : fJ l = 0) : eT l = 0 ∧ xS l := by
 unfold fJ at h
 split at h
 ·rename_i hw
  exact absurd h hw
 ·rename_i hw
  have hw0 : eT l = 0 := by
   by_cases e : eT l = 0
   ·exact e
   ·exact absurd e hw
  refine ⟨hw0, fun k k1 k2 => ?_⟩
  cases hq : iK l (dt l).1 l.length 0 (j8 l) with
  | inl e =>
   rw [hq] at h
   simp only at h
   subst h
   exfalso
   have key : ∀ (r i : Nat) {f : gD}, iK l (dt l).1 r i f ≠ .inl 0 := by
    intro r
    induction r with
    | zero => intro i f h; cases h
    | succ r ih =>
     intro i f h
     simp only [iK] at h
     cases hq : f0 l (dt l).1 i f with
     | inr f1 => rw [hq] at h; exact ih (i + 1) h
     | inl e =>
      rw [hq] at h
      cases h
      unfold f0 at hq
      split at hq
      ·cases hq
      ·split at hq
       ·cases hq
       ·split at hq
        ·cases hq
        ·split at hq
         ·rename_i h5
          exact h5 (Sum.inl.inj hq)
         ·cases hq
   exact key _ _ hq
  | inr f' =>
   have hI : ∀ k, (j8 l).2.1.getD k false = true → k = 0 ∨ ∃ p, p < 0 ∧ k ∈ fd l p := fun k hk => by
    left
    unfold j8 at hk
    rcases EE hk with h2 | h2
    ·rw [ar, bV] at h2
     split at h2 <;> cases h2
    ·exact h2
   rcases uS l.length 0 hq hI k (ao _) (by omega) with h1 | h1
   ·omega
   ·exact h1
theorem Fine.jump_enc {l : List cY} {m h : List Int} (hF : Fine l m h) {i : Nat} (hi : i < l.length) (hj : dd l i = 19 ∨ dd l i = 20) (q : Nat) : enc l m q (dr l i) = enc l m q i := by
 obtain ⟨k1, k2⟩ := hF.jump hi hj
 rcases nF l m i with hh | ⟨p, hh⟩
 ·rw [oK hh q, oK (k2.trans hh) q]
 ·obtain ⟨_, _, x3⟩ := jh hF.nest hi hh
  obtain ⟨_, _, y3⟩ := jh hF.nest k1 (k2.trans hh)
  rw [x3 q, y3 q]
theorem nS {l : List cY} {m : List Int} {q k j : Nat} (ho : dw l q = true) (hj : m.getD q 0 = (j : Int)) : enc l m q k = true ↔ q < k ∧ k ≤ j := by
 unfold enc
 rw [ho, hj]
 simp
def qO (l : List cY) (m : List Int) (a z k : Nat) : Prop := a ≤ k ∧ k ≤ z ∧ ∀ q, a ≤ q → q < k → dd l q = 21 → mN m q < k
structure Way (l : List cY) (m : List Int) (a z : Nat) : Prop where
 reg : Reg l m a z
 out : a = 0 ∨ ∃ p, a = p + 1 ∧ dw l p = true ∧ m.getD p 0 = (z : Int)
theorem Fine.way {l : List cY} {m h : List Int} (hF : Fine l m h) {p : Nat} (hp : p < l.length) (ho : dw l p = true) : Way l m (p + 1) (mN m p) := by
 refine ⟨hF.reg hp ho, .inr ⟨p, rfl, ho, ?_⟩⟩
 obtain ⟨j, j1, _⟩ := hF.nest.open_ p hp ho
 unfold mN
 rw [j1]
 rfl
theorem Fine.wayAll {l : List cY} {m h : List Int} (hF : Fine l m h) : Way l m 0 (l.length - 1) := ⟨hF.all, .inl rfl⟩
theorem vx {l : List cY} {m h : List Int} (hF : Fine l m h) (hS : xS l) {a z : Nat} (hR : Way l m a z) {k : Nat} (hk : qO l m a z k) (hak : a < k) : ∃ p, qO l m a z p ∧ p < k ∧ k ∈ eD l m p := by
 obtain ⟨k1, k2, k3⟩ := hk
 have hlt := hR.reg.lt
 obtain ⟨p, p1, p2⟩ := hS k (by omega) (by omega)
 have hpl : p < l.length := by omega
 have hcase : k = p + 1 ∨ ((dd l p = 19 ∨ dd l p = 20) ∧ k = dr l p) := by
  unfold fd at p2
  split at p2
  ·rename_i h1
   rw [aD] at p2
   exact .inr ⟨.inl h1, p2⟩
  ·split at p2
   ·rename_i h1 h2
    rw [aA, aD] at p2
    rcases p2 with h3 | h3
    ·exact .inl h3
    ·exact .inr ⟨.inr h2, h3⟩
   ·split at p2
    ·cases p2
    ·rw [aD] at p2
     exact .inl p2
 have hap : a ≤ p := by
  rcases hcase with h1 | ⟨h1, h2⟩
  ·omega
  ·rcases hR.out with h3 | ⟨o, o1, o2, o3⟩
   ·omega
   ·rcases am p a with h4 | h4
    ·exfalso
     have e1 : enc l m o k = true := (nS o2 o3).2 ⟨by omega, k2⟩
     rw [h2, hF.jump_enc hpl h1, nS o2 o3] at e1
     omega
    ·exact h4
 by_cases hin : qO l m a z p
 ·refine ⟨p, hin, p1, ?_⟩
  unfold fd at p2
  unfold eD
  by_cases h21 : dd l p = 21
  ·exfalso
   have hkp : k = p + 1 := by
    rcases hcase with h1 | ⟨h1, _⟩
    ·exact h1
    ·omega
   have := k3 p hap (by omega) h21
   obtain ⟨j, j1, j2, j3⟩ := hF.nest.open_ p hpl (isOpen_iff.2 (.inl h21))
   unfold mN at this
   rw [j1] at this
   have e : ((j : Int)).toNat = j := rfl
   omega
  ·rw [if_neg h21]
   by_cases h19 : dd l p = 19
   ·rw [if_pos h19] at p2 ⊢
    exact p2
   ·rw [if_neg h19] at p2 ⊢
    by_cases h20 : dd l p = 20
    ·rw [if_pos h20] at p2 ⊢
     rw [aA, aD] at p2 ⊢
     exact p2.symm
    ·rw [if_neg h20] at p2 ⊢
     split at p2
     ·cases p2
     ·exact p2
 ·have : ∃ q, a ≤ q ∧ q < p ∧ dd l q = 21 ∧ p ≤ mN m q := by
   apply cH
   intro hno
   refine hin ⟨hap, by omega, fun q q1 q2 q3 => ?_⟩
   rcases am (mN m q) p with h1 | h1
   ·exact h1
   ·exact absurd ⟨q, q1, q2, q3, h1⟩ hno
  obtain ⟨q0, hq0⟩ := this
  obtain ⟨q, q1, ⟨q2, q3, q4, q5⟩, q6⟩ := Mp (P := fun q => a ≤ q ∧ q < p ∧ dd l q = 21 ∧ p ≤ mN m q) hq0
  have hqo : dw l q = true := isOpen_iff.2 (.inl q4)
  obtain ⟨j, j1, j2, j3⟩ := hF.nest.open_ q (by omega) hqo
  have hj : mN m q = j := by unfold mN; rw [j1]; rfl
  rw [hj] at q5
  have hqk := k3 q q2 (by omega) q4
  rw [hj] at hqk
  refine ⟨q, ⟨q2, by omega, fun q' a1 a2 a3 => ?_⟩, by omega, ?_⟩
  ·rcases am (mN m q') q with h1 | h1
   ·exact h1
   ·exfalso
    have ho' : dw l q' = true := isOpen_iff.2 (.inl a3)
    obtain ⟨j', e1, e2, e3, e4, e5⟩ := hF.closed.op_ q' (by omega) ho'
    have hj' : mN m q' = j' := by unfold mN; rw [e1]; rfl
    rw [hj'] at h1
    have hne : j' ≠ q := fun e => by
     subst e
     rw [BX e4] at hqo
     cases hqo
    obtain ⟨x, x1, x2⟩ := hF.nest.cross q' q j' a2 (by omega) (by omega) ho' hqo e1
    have : (x : Int) = (j : Int) := x1.symm.trans j1
    exact q6 q' a2 ⟨a1, by omega, a3, by rw [hj']; omega⟩
  ·rcases hcase with h1 | ⟨h1, h2⟩
   ·unfold eD
    rw [if_pos q4, hj, aD]
    omega
   ·exfalso
    have e1 : enc l m q p = true := (nS hqo j1).2 ⟨q3, q5⟩
    rw [← hF.jump_enc hpl h1, ← h2, nS hqo j1] at e1
    omega
theorem uT {b : Int → Int → Int} (hb : wz b) {v : Int} (hv : v ≠ -1) : ∀ (ks : List Nat) {D : Nat → Int} {k : Nat}, D k ≠ -1 ∨ k ∈ ks → ks.foldl (fun g k => er b g k v) D k ≠ -1
 | [], D, k, h => h.elim id fun h => by cases h
 | q :: ks, D, k, h => by
  refine uT hb hv ks (D := er b D q v) ?_
  unfold er
  by_cases e : k = q
  ·left
   rw [if_pos e]
   split
   ·exact hv
   ·rename_i h1
    rcases hb (D q) v with h2 | h2 <;> rw [h2]
    ·exact h1
    ·exact hv
  ·rw [if_neg e]
   rcases h with h | h
   ·exact .inl h
   ·rcases aA.1 h with h | h
    ·exact absurd h e
    ·exact .inr h
theorem B6 {b : Int → Int → Int} (hb : wz b) {W : Nat → Nat → Int} {l : List cY} {m h : List Int} (hF : Fine l m h) (hS : xS l) {a z : Nat} (hR : Way l m a z) (hW : ∀ i, a ≤ i → i < z → dd l i = 21 → StepsI (W (i + 1) (mN m i))) : ∀ (r i : Nat) {D : Nat → Int}, (∀ k, StepsI (D k)) → a ≤ i → i + r = z → (∀ k, qO l m a z k → k = a ∨ (∃ p, qO l m a z p ∧ p < i ∧ k ∈ eD l m p) → D k ≠ -1) → ∀ k, qO l m a z k → eF b W l m r i D k ≠ -1
 | 0, i, D, hD, hi, hz, hI, k, hk => by
  refine hI k hk ?_
  by_cases e : k = a
  ·exact .inl e
  ·obtain ⟨p, p1, p2, p3⟩ := vx hF hS hR hk (by have := hk.1; omega)
   exact .inr ⟨p, p1, by have := hk.2.1; omega, p3⟩
 | r + 1, i, D, hD, hi, hz, hI, k, hk => by
  have hlt := hR.reg.lt
  have hWi := hW i hi (by omega)
  have hr := hF.right (show i < l.length by omega)
  refine B6 hb hF hS hR hW r (i + 1) (fK hb hD hr hWi) (by omega) (by omega) (fun j hj hp => ?_) k hk
  have old : D j ≠ -1 → ej b W l m i D j ≠ -1 := fun h => by
   unfold ej
   split
   ·exact h
   ·rename_i h1
    have hDi : 0 ≤ D i := by
     rcases hD i with h2 | h2
     ·exact absurd h2 h1
     ·exact h2.1
    have := fv hDi (ij hr hWi).1
    exact uT hb (by omega) _ (.inl h)
  rcases hp with h1 | ⟨p, p1, p2, p3⟩
  ·exact old (hI j hj (.inl h1))
  ·by_cases e : p = i
   ·subst e
    have hDp : D p ≠ -1 := by
     refine hI p p1 ?_
     by_cases e : p = a
     ·exact .inl e
     ·obtain ⟨p', a1, a2, a3⟩ := vx hF hS hR p1 (by omega)
      exact .inr ⟨p', a1, a2, a3⟩
    have hDp0 : 0 ≤ D p := by
     rcases hD p with h2 | h2
     ·exact absurd h2 hDp
     ·exact h2.1
    unfold ej
    rw [if_neg hDp]
    have := fv hDp0 (ij hr hWi).1
    exact uT hb (by omega) _ (.inr p3)
   ·exact old (hI j hj (.inr ⟨p, p1, by omega, p3⟩))
theorem HF {l : List cY} {m h : List Int} {a z : Nat} (hR : Way l m a z) : qO l m a z z := by
 refine ⟨hR.reg.le, aq _, fun q h1 h2 h3 => ?_⟩
 obtain ⟨j, j1, j2, j3⟩ := hR.reg.loop q h1 h2 (isOpen_iff.2 (.inl h3))
 unfold mN
 rw [j1]
 exact j3
theorem kF {b : Int → Int → Int} (hb : wz b) {l : List cY} {m h : List Int} (hF : Fine l m h) (hS : xS l) (f : Nat) {a z : Nat} (hR : Way l m a z) : 0 ≤ dX b l m f a z ∧ dX b l m f a z ≤ 1048577 := by
 have h0 := js hb hF f hR.reg
 have hlt := hR.reg.lt
 have hle := hR.reg.le
 cases f with
 | zero => exact ⟨aE _, by show (0 : Int) ≤ 1048577; decide⟩
 | succ f =>
  have h1 : dX b l m (f + 1) a z ≠ -1 := by
   refine B6 hb hF hS hR (fun i i1 i2 i3 => js hb hF f (hF.reg (by omega) (isOpen_iff.2 (.inl i3)))) (z - a) a (gw a) (aq _) (by omega) (fun k hk hp => ?_) z (HF (h := h) hR)
   rcases hp with e | ⟨p, p1, p2, _⟩
   ·subst e
    unfold fe
    rw [if_pos rfl]
    decide
   ·have := p1.1
    omega
  rcases h0 with h2 | h2
  ·exact absurd h2 h1
  ·exact h2
structure LQ (d : List Int) (s : List Bool) (D : Nat → Int) (a z : Nat) : Prop where
 dl : d.length = z - a + 1
 sl : s.length = z - a + 1
 at_ : ∀ k, a ≤ k → k ≤ z → d.getD (k - a) 0 = (if D k = -1 then 0 else D k) ∧ s.getD (k - a) false = (D k != -1)
theorem Ka {l : List Bool} {i j : Nat} {v d : Bool} (h : i < l.length) : (l.set i v).getD j d = if j = i then v else l.getD j d := eb h
theorem LQ.put {d : List Int} {s : List Bool} {D : Nat → Int} {a z : Nat} (h : LQ d s D a z) (b : Int → Int → Int) {k : Nat} (hk : a ≤ k) (hk2 : k ≤ z) {v x : Int} (hx : x = if D k = -1 then v else b (D k) v) (hx0 : x ≠ -1) : LQ (d.set (k - a) x) (s.set (k - a) true) (er b D k v) a z := by
 have h1 := h.dl
 have h2 := h.sl
 refine ⟨by rw [aP, h1], by rw [aP, h2], fun j j1 j2 => ?_⟩
 rw [eb (by omega), Ka (by omega)]
 unfold er
 by_cases e : j = k
 ·subst e
  rw [if_pos rfl, if_pos rfl, if_pos rfl, ← hx, if_neg hx0]
  exact ⟨rfl, (ak.2 hx0).symm⟩
 ·have e3 : ¬ (j - a = k - a) := by omega
  simp only [e3, e, ay]
  exact h.at_ j j1 j2
theorem LQ.same {d : List Int} {s : List Bool} {D : Nat → Int} {a z : Nat} (h : LQ d s D a z) (b : Int → Int → Int) {k : Nat} {v : Int} (h1 : D k ≠ -1) (h2 : b (D k) v = D k) : LQ d s (er b D k v) a z := by
 refine ⟨h.dl, h.sl, fun j j1 j2 => ?_⟩
 unfold er
 by_cases e : j = k
 ·subst e
  rw [if_pos rfl, if_neg h1, h2]
  exact h.at_ j j1 j2
 ·rw [if_neg e]
  exact h.at_ j j1 j2
def eG (b : Int → Int → Int) (n : Nat) (l : List cY) : Int × Int :=
 if ec l ≠ 0 then (0, ec l) else if fJ l ≠ 0 then (0, fJ l)
 else if dn (dX b l (dt l).1 n 0 (l.length - 1)) 1 = 1048577 then (0, 4) else (dn (dX b l (dt l).1 n 0 (l.length - 1)) 1, 0)
theorem gE {l : List cY} (h : ec l = 0) : eT l = 0 := by
 unfold ec at h
 split at h
 ·exact h
 ·rename_i h1
  by_cases e : eT l = 0
  ·exact e
  ·exact absurd e h1
theorem Nm {k : Nat} (h : 0 < k) (h2 : k < 1000000) : wrap .i64 ((k : Int) - 1) = ((k - 1 : Nat) : Int) := vt h h2
theorem HG (n : Nat) (l : List cY) (hl : l.length < n) (hn3 : 3 < n) (hn : n < 1000000) : iQ n l = some (eG bM n l) := by
 obtain ⟨o1, h1⟩ := Ew n l hl hn
 obtain ⟨o2, h2⟩ := B0 n l hl hn3 hn
 unfold iQ eG
 rw [h1, ae]
 by_cases hk : ec l = 0
 ·have hw := gE hk
  have hs := jr hw
  have hF := nG hw
  obtain ⟨l1, l2⟩ := hF.len
  rw [if_neg (fun h => (ak.1 h) hk), if_neg (show ¬ (ec l ≠ 0) from fun h => h hk), h2, ae]
  by_cases ht : fJ l = 0
  ·have hS := (AV ht).2
   rw [if_neg (fun h => (ak.1 h) ht), if_neg (show ¬ (fJ l ≠ 0) from fun h => h ht), xQ n l hl hn, ae]
   simp only
   have hwy := kF eB hF hS n hF.wayAll
   have hw1 := Nk n hF hl hF.all
   rw [show ((0 : Nat) : Int) = 0 from rfl] at hw1
   rw [if_neg (fun h => (ak.1 h) hs), Nm l1 (by omega), hw1, ae, ik n (by omega) hwy.2 (by decide) (by decide), ae]
   generalize dn (dX bM l (dt l).1 n 0 (l.length - 1)) 1 = w
   by_cases e : w = 1048577
   ·rw [if_pos e, if_pos (by simpa only [ag] using e)]
   ·rw [if_neg e, if_neg (by simpa only [ag] using e)]
  ·rw [if_pos (show (fJ l != 0) = true from ak.2 ht), if_pos (show (fJ l != 0) = true from ak.2 ht), if_pos ht]
 ·rw [if_pos (show (ec l != 0) = true from ak.2 hk), if_pos (show (ec l != 0) = true from ak.2 hk), if_pos hk]
theorem xT (n : Nat) (l : List cY) (hl : l.length < n) (hn3 : 3 < n) (hn : n < 1000000) : fC n l = some (eG bM n l) := by
 unfold fC
 rw [HG n l hl hn3 hn]
 rfl
def gx (l : List cY) (m : List Int) (n : Nat) : Nat → Nat → List (Int × Int)
 | 0, _ => []
 | r + 1, i => (if dd l i = 23 then [(dJ l i, dX bM l m n (i + 1) (mN m i) + 1)] else []) ++ gx l m n r (i + 1)
def j9 (n : Nat) (l : List cY) : List (Int × Int) × Int := if (eG bM n l).2 ≠ 0 then ([], (eG bM n l).2) else (gx l (dt l).1 n l.length 0, 0)
theorem B7 (n : Nat) {l : List cY} {m h : List Int} (hF : Fine l m h) (hn : l.length < n) : ∀ (f i : Nat) {o : List (Int × Int)}, o.length ≤ i → i ≤ l.length → l.length < f + i →
  it (fun F => (dM q_) (fq n F)) f (o, l, (l.length : Int), (i : Int), l, m) = some (o ++ gx l m n (l.length - i) i, l, m)
 | 0, i, o, ho, hi, hf => by omega
 | f + 1, i, o, ho, hi, hf => by
  have ih := fun {o : List (Int × Int)} => B7 n hF hn f (i + 1) (o := o)
  show fq n (it _ f) o l (l.length : Int) (i : Int) l m = _
  generalize it (fun F => (dM q_) (fq n F)) f = F at ih ⊢
  obtain ⟨l1, l2⟩ := hF.len
  unfold fq
  rcases am i l.length with hlt | hge
  ·rw [if_pos (af (by omega)), if_pos (dc hlt), ai, di (by omega), show l.length - i = (l.length - (i + 1)) + 1 by omega]
   rw [show gx l m n (l.length - (i + 1) + 1) i = (if dd l i = 23 then [(dJ l i, dX bM l m n (i + 1) (mN m i) + 1)] else []) ++ gx l m n (l.length - (i + 1)) (i + 1) from rfl]
   by_cases h23 : (l.getD i (0, 0, 0)).1 = 23
   ·rw [if_pos (show ((l.getD i (0, 0, 0)).1 == 23) = true by simpa only [ag] using h23), if_pos (show dd l i = 23 from h23), if_pos (dc (by rw [hF.nest.hm]; exact hlt))]
    have ho2 : dw l i = true := isOpen_iff.2 (.inr h23)
    obtain ⟨j, j1, j2, j3⟩ := hF.nest.open_ i hlt ho2
    have hj : mN m i = j := by unfold mN; rw [j1]; rfl
    have hR := hF.reg hlt ho2
    rw [hj] at hR ⊢
    have hwy := js eB hF n hR
    rw [j1, Nl n hF hn hR, ae, if_pos (by simp; omega)]
    have hwr : wrap .i64 (dX bM l m n (i + 1) j + 1) = dX bM l m n (i + 1) j + 1 := by
     rcases hwy with h | h
     ·rw [h]; rfl
     ·exact dA (by omega) (by omega)
    rw [hwr, ih (by simp; omega) (by omega) (by omega), aN]
   ·rw [if_neg (show ¬ ((l.getD i (0, 0, 0)).1 == 23) = true by simpa only [ag] using h23), if_neg (show ¬ dd l i = 23 from h23), ih (by omega) (by omega) (by omega), bQ]
  ·have : i = l.length := by omega
   subst this
   rw [if_neg (by simp), bf]
   simp [gx]
theorem rU {b : Int → Int → Int} {n : Nat} {l : List cY} (h : (eG b n l).2 = 0) : ec l = 0 ∧ fJ l = 0 := by
 unfold eG at h
 by_cases h1 : ec l = 0
 ·rw [if_neg (show ¬ (ec l ≠ 0) from fun h => h h1)] at h
  by_cases h2 : fJ l = 0
  ·exact ⟨h1, h2⟩
  ·rw [if_pos h2] at h
   exact absurd h h2
 ·rw [if_pos h1] at h
  exact absurd h h1
theorem Fu (n : Nat) (l : List cY) (hl : l.length < n) (hn3 : 3 < n) (hn : n < 1000000) : gj n l = some (j9 n l) := by
 unfold gj j9
 rw [xT n l hl hn3 hn, ae]
 by_cases h0 : (eG bM n l).2 = 0
 ·obtain ⟨hk, ht⟩ := rU h0
  obtain ⟨o1, h1⟩ := Ew n l hl hn
  obtain ⟨o2, h2⟩ := B0 n l hl hn3 hn
  have hF := nG (gE hk)
  have hlp := B7 n hF hl n 0 (o := []) (ao _) (ao _) (by omega)
  rw [show ((0 : Nat) : Int) = 0 from rfl, bu] at hlp
  unfold iZ
  rw [if_neg (fun h => (ak.1 h) h0), if_neg (show ¬ ((eG bM n l).2 ≠ 0) from fun h => h h0), h1, ae, if_neg (fun h => (ak.1 h) hk), h2, ae, if_neg (fun h => (ak.1 h) ht), xQ n l hl hn, ae]
  simp only
  rw [hlp, ae, bQ]
 ·rw [if_pos (ak.2 h0), if_pos h0]
theorem Nn {D : Nat → Int} {k : Nat} {v : Int} (hv : 0 ≤ v) (hD : StepsI (D k)) : ∀ j, D j ≤ er bM D k v j := fun j => by
 unfold er
 by_cases e : j = k
 ·subst e
  rw [if_pos rfl]
  split
  ·omega
  ·unfold bM; split <;> omega
 ·rw [if_neg e]; omega
theorem Np {D : Nat → Int} {k : Nat} {v : Int} (hv : 0 ≤ v) : v ≤ er bM D k v k := by
 unfold er
 rw [if_pos rfl]
 split
 ·omega
 ·unfold bM; split <;> omega
theorem EF {v : Int} (hv : 0 ≤ v ∧ v ≤ 1048577) : ∀ (ks : List Nat) {D : Nat → Int}, (∀ k, StepsI (D k)) → (∀ j, D j ≤ ks.foldl (fun g k => er bM g k v) D j) ∧ ∀ j ∈ ks, v ≤ ks.foldl (fun g k => er bM g k v) D j
 | [], D, hD => ⟨fun j => aE _, fun j hj => by cases hj⟩
 | q :: ks, D, hD => by
  obtain ⟨h1, h2⟩ := EF hv ks (D := er bM D q v) (qN eB hD q hv)
  refine ⟨fun j => bg (Nn hv.1 (hD q) j) (h1 j), fun j hj => ?_⟩
  rcases aA.1 hj with e | e
  ·subst e
   exact bg (Np hv.1) (h1 j)
  ·exact h2 j e
theorem StepsI.nn {v : Int} (h : StepsI v) (h1 : v ≠ -1) : 0 ≤ v ∧ v ≤ 1048577 := h.elim (fun h => absurd h h1) id
theorem oL {W : Nat → Nat → Int} {l : List cY} {m : List Int} {i : Nat} {D : Nat → Int} (hD : ∀ k, StepsI (D k)) (hr : dH (l.getD i (0, 0, 0)) = true) (hW : dd l i = 21 → StepsI (W (i + 1) (mN m i))) : (∀ j, D j ≤ ej bM W l m i D j) ∧ (D i ≠ -1 → ∀ j ∈ eD l m i, dn (D i) (eo W l m i) ≤ ej bM W l m i D j) := by
 unfold ej
 by_cases e : D i = -1
 ·rw [if_pos e]
  exact ⟨fun j => aE _, fun h => absurd e h⟩
 ·rw [if_neg e]
  obtain ⟨h1, h2⟩ := EF (fv ((hD i).nn e).1 (ij hr hW).1) (eD l m i) hD
  exact ⟨h1, fun _ => h2⟩
theorem AW {a b c d : Int} (h : a ≤ b) (k : c ≤ d) : dn a c ≤ dn b d := by unfold dn; split <;> split <;> omega
theorem Kb {a b : Int} (ha : a ≤ 1048577) (hb : 0 ≤ b) : a ≤ dn a b := by unfold dn; split <;> omega
theorem HH {a b c : Int} (ha : 0 ≤ a) (hb : 0 ≤ b) (hc : 0 ≤ c) : dn (dn a b) c = dn a (dn b c) := by unfold dn; split <;> split <;> split <;> (try split) <;> omega
theorem Reg.hop {l : List cY} {m : List Int} {a z : Nat} (hR : Reg l m a z) {i : Nat} (h1 : a ≤ i) (h2 : i < z) : eD l m i ≠ [] ∧ ∀ k ∈ eD l m i, i < k ∧ k ≤ z := by
 unfold eD
 by_cases h21 : dd l i = 21
 ·rw [if_pos h21]
  obtain ⟨j, j1, j2, j3⟩ := hR.loop i h1 h2 (isOpen_iff.2 (.inl h21))
  refine ⟨by simp, fun k hk => ?_⟩
  have : k = mN m i + 1 := by simpa using hk
  unfold mN at this
  rw [j1] at this
  simp at this
  omega
 ·rw [if_neg h21]
  by_cases h19 : dd l i = 19
  ·rw [if_pos h19]
   have := hR.jump i h1 h2 (.inl h19)
   refine ⟨by simp, fun k hk => ?_⟩
   have e : k = dr l i := by simpa using hk
   subst e
   refine ⟨?_, this⟩
   unfold dr
   omega
  ·rw [if_neg h19]
   by_cases h20 : dd l i = 20
   ·rw [if_pos h20]
    have := hR.jump i h1 h2 (.inr h20)
    refine ⟨by simp, fun k hk => ?_⟩
    have e : k = dr l i ∨ k = i + 1 := by simpa using hk
    rcases e with e | e
    ·subst e
     refine ⟨?_, this⟩
     unfold dr
     omega
    ·omega
   ·rw [if_neg h20]
    exact ⟨by simp, fun k hk => by
     have e : k = i + 1 := by simpa using hk
     omega⟩
theorem rV {b : Int → Int → Int} {W : Nat → Nat → Int} {l : List cY} {m : List Int} : ∀ (r s i : Nat) (D : Nat → Int), eF b W l m (r + s) i D = eF b W l m s (i + r) (eF b W l m r i D)
 | 0, s, i, D => by rw [bU]; rfl
 | r + 1, s, i, D => by
  rw [show r + 1 + s = (r + s) + 1 by omega]
  show eF b W l m (r + s) (i + 1) _ = eF b W l m s (i + (r + 1)) (eF b W l m r (i + 1) _)
  rw [rV r s (i + 1), show i + 1 + r = i + (r + 1) by omega]
theorem EG {W : Nat → Nat → Int} {l : List cY} {m : List Int} (hr : ∀ i, i < l.length → dH (l.getD i (0, 0, 0)) = true) {a z : Nat} (hR : Reg l m a z) (hW : ∀ i, a ≤ i → i < z → dd l i = 21 → StepsI (W (i + 1) (mN m i))) {c : Int} (hc : 0 ≤ c) : ∀ (r i : Nat) {D : Nat → Int}, (∀ k, StepsI (D k)) → a ≤ i → i + r = z → (∃ k, i ≤ k ∧ k ≤ z ∧ c ≤ D k) → c ≤ eF bM W l m r i D z
 | 0, i, D, hD, hi, hz, ⟨k, k1, k2, k3⟩ => by
  have : k = z := by omega
  subst this
  exact k3
 | r + 1, i, D, hD, hi, hz, ⟨k, k1, k2, k3⟩ => by
  have hlt := hR.lt
  have hWi := hW i hi (by omega)
  have hri := hr i (by omega)
  obtain ⟨s1, s2⟩ := oL hD hri hWi
  refine EG hr hR hW hc r (i + 1) (fK eB hD hri hWi) (by omega) (by omega) ?_
  by_cases e : k = i
  ·subst e
   have hDk : D k ≠ -1 := by omega
   obtain ⟨n1, n2⟩ := hR.hop hi (by omega)
   obtain ⟨q, qs, hq⟩ := List.exists_cons_of_ne_nil n1
   have hqm : q ∈ eD l m k := by rw [hq]; exact aB ..
   obtain ⟨q1, q2⟩ := n2 q hqm
   refine ⟨q, by omega, q2, ?_⟩
   have := s2 hDk q hqm
   have h3 := Kb ((hD k).nn hDk).2 (ij hri hWi).1
   omega
  ·exact ⟨k, by omega, k2, bg k3 (s1 k)⟩
theorem Gr {W : Nat → Nat → Int} {l : List cY} {m : List Int} (hr : ∀ i, i < l.length → dH (l.getD i (0, 0, 0)) = true) {c : Int} (hc : 0 ≤ c ∧ c ≤ 1048577) : ∀ (r i : Nat) {D D0 : Nat → Int}, (∀ k, StepsI (D k)) → (∀ k, StepsI (D0 k)) → r + i ≤ l.length → (∀ k, i ≤ k → k < r + i → dd l k = 21 → StepsI (W (k + 1) (mN m k))) → (∀ j, i ≤ j → D0 j ≠ -1 → dn c (D0 j) ≤ D j) → ∀ j, i + r ≤ j → eF bM W l m r i D0 j ≠ -1 → dn c (eF bM W l m r i D0 j) ≤ eF bM W l m r i D j
 | 0, i, D, D0, hD, hD0, hl, hW, h, j, hj, hn => h j hj hn
 | r + 1, i, D, D0, hD, hD0, hl, hW, h, j, hj, hn => by
  have hWi := hW i (aq _) (by omega)
  have hri := hr i (by omega)
  have hco := ij hri hWi
  obtain ⟨s1, s2⟩ := oL hD hri hWi
  refine Gr hr hc r (i + 1) (fK eB hD hri hWi) (fK eB hD0 hri hWi) (by omega) (fun k h1 h2 => hW k (by omega) (by omega)) (fun q hq hq2 => ?_) j (by omega) hn
  by_cases e : D0 i = -1
  ·have e2 : ej bM W l m i D0 = D0 := by unfold ej; rw [if_pos e]
   rw [e2] at hq2 ⊢
   exact bg (h q (by omega) hq2) (s1 q)
  ·have hi := h i (aq _) e
   have hD0i := (hD0 i).nn e
   have hci := fv hc.1 hD0i.1
   have hDi : D i ≠ -1 := by omega
   have hDi2 := (hD i).nn hDi
   have s2 := s2 hDi
   have hv : dn c (dn (D0 i) (eo W l m i)) ≤ dn (D i) (eo W l m i) := by
    rw [← HH hc.1 hD0i.1 hco.1]
    exact AW hi (aE _)
   have key : ∀ (ks : List Nat) {E : Nat → Int}, (∀ k, StepsI (E k)) → (∀ k ∈ ks, k ∈ eD l m i) → (∀ k, i + 1 ≤ k → E k ≠ -1 → dn c (E k) ≤ ej bM W l m i D k) → ∀ k, i + 1 ≤ k → ks.foldl (fun g k => er bM g k (dn (D0 i) (eo W l m i))) E k ≠ -1 → dn c (ks.foldl (fun g k => er bM g k (dn (D0 i) (eo W l m i))) E k) ≤ ej bM W l m i D k := by
    intro ks
    induction ks with
    | nil => intro E hE hk h0 k hk2 hn; exact h0 k hk2 hn
    | cons q ks ih =>
     intro E hE hk h0
     refine ih (qN eB hE q (fv hD0i.1 hco.1)) (fun k h => hk k (ax _ h)) (fun k hk2 hn => ?_)
     show dn c (er bM E q (dn (D0 i) (eo W l m i)) k) ≤ _
     replace hn : er bM E q (dn (D0 i) (eo W l m i)) k ≠ -1 := hn
     by_cases ek : k = q
     ·subst ek
      have h1 := s2 k (hk k (aB ..))
      unfold er at hn ⊢
      rw [if_pos rfl] at hn ⊢
      by_cases eE : E k = -1
      ·rw [if_pos eE]
       exact bg hv h1
      ·rw [if_neg eE]
       have h2 := h0 k hk2 eE
       unfold bM
       split
       ·exact bg hv h1
       ·exact h2
     ·unfold er at hn ⊢
      rw [if_neg ek] at hn ⊢
      exact h0 k hk2 hn
   have e2 : ej bM W l m i D0 = (eD l m i).foldl (fun g k => er bM g k (dn (D0 i) (eo W l m i))) D0 := by unfold ej; rw [if_neg e]
   rw [e2] at hq2 ⊢
   exact key (eD l m i) hD0 (fun k h => h) (fun k hk hn => bg (h k (by omega) hn) (s1 k)) q hq hq2
theorem EH {l : List cY} {m h : List Int} (hF : Fine l m h) (hC : Closed l m) (hS : xS l) {n : Nat} (hn : l.length < n) {a z : Nat} (hR : Way l m a z) {q : Nat} (hq : qO l m a z q) (hqz : q < z) (ho : dd l q = 23) : dn 2 (dX bM l m n (q + 1) (mN m q)) ≤ dX bM l m n a z := by
 have hlt := hR.reg.lt
 obtain ⟨q1, q2, q3⟩ := hq
 have hqo : dw l q = true := isOpen_iff.2 (.inr ho)
 obtain ⟨j, j1, j2, j3⟩ := hR.reg.loop q q1 hqz hqo
 have hj : mN m q = j := by unfold mN; rw [j1]; rfl
 rw [hj]
 obtain ⟨n, rfl⟩ : ∃ n', n = n' + 1 := ⟨n - 1, by omega⟩
 have hRq : Reg l m (q + 1) j := hj ▸ hF.reg (by omega) hqo
 have hr : ∀ i, i < l.length → dH (l.getD i (0, 0, 0)) = true := fun i hi => hF.right hi
 have hW : ∀ i, a ≤ i → i < z → dd l i = 21 → StepsI (dX bM l m n (i + 1) (mN m i)) := fun i i1 i2 i3 => js eB hF n (hF.reg (by omega) (isOpen_iff.2 (.inl i3)))
 have hopj : dd l j = 24 := by
  obtain ⟨j', c1, c2, c3, c4, c5⟩ := hC.op_ q (by omega) hqo
  rw [j1] at c1
  have : j = j' := by omega
  subst this
  show (l.getD j (0, 0, 0)).1 = 24
  rw [c4]
  unfold ends
  rw [if_neg (by show ¬ (l.getD q (0, 0, 0)).1 = 21; rw [show (l.getD q (0, 0, 0)).1 = 23 from ho]; decide)]
 show dn 2 (eF bM (dX bM l m n) l m (j - (q + 1)) (q + 1) (fe (q + 1)) j) ≤ eF bM (dX bM l m n) l m (z - a) a (fe a) z
 -- to the block
 rw [show z - a = (q - a) + (z - q) by omega, rV, show a + (q - a) = q by omega]
 have hD1 : ∀ k, StepsI (eF bM (dX bM l m n) l m (q - a) a (fe a) k) := vw eB hr (q - a) a (gw a) (by omega) (fun k k1 k2 => hW k k1 (by omega))
 have hDq : eF bM (dX bM l m n) l m (q - a) a (fe a) q ≠ -1 := by
  have hRq' : ∀ k, qO l m a z k → k ≤ q → eF bM (dX bM l m n) l m (q - a) a (fe a) k ≠ -1 := by
   -- reached ahead of it
   have gen : ∀ (r i : Nat) {D : Nat → Int}, (∀ k, StepsI (D k)) → a ≤ i → i + r = q → (∀ k, qO l m a z k → k = a ∨ (∃ p, qO l m a z p ∧ p < i ∧ k ∈ eD l m p) → D k ≠ -1) → ∀ k, qO l m a z k → k ≤ q → eF bM (dX bM l m n) l m r i D k ≠ -1 := by
    intro r
    induction r with
    | zero =>
     intro i D hD hi hz hI k hk hkq
     refine hI k hk ?_
     by_cases e : k = a
     ·exact .inl e
     ·obtain ⟨p, p1, p2, p3⟩ := vx hF hS hR hk (by have := hk.1; omega)
      exact .inr ⟨p, p1, by omega, p3⟩
    | succ r ih =>
     intro i D hD hi hz hI k hk hkq
     have hWi := hW i hi (by omega)
     have hri := hr i (by omega)
     refine ih (i + 1) (fK eB hD hri hWi) (by omega) (by omega) (fun k' hk' hp => ?_) k hk hkq
     obtain ⟨s1, s2⟩ := oL hD hri hWi
     have old : D k' ≠ -1 → ej bM (dX bM l m n) l m i D k' ≠ -1 := fun h => by
      have := s1 k'
      have := ((hD k').nn h).1
      omega
     rcases hp with h1 | ⟨p, p1, p2, p3⟩
     ·exact old (hI k' hk' (.inl h1))
     ·by_cases e : p = i
      ·subst e
       have hDp : D p ≠ -1 := by
        refine hI p p1 ?_
        by_cases e : p = a
        ·exact .inl e
        ·obtain ⟨p', a1, a2, a3⟩ := vx hF hS hR p1 (by omega)
         exact .inr ⟨p', a1, a2, a3⟩
       have h3 := s2 hDp k' p3
       have h4 := fv ((hD p).nn hDp).1 (ij hri hWi).1
       omega
      ·exact old (hI k' hk' (.inr ⟨p, p1, by omega, p3⟩))
   intro k hk hkq
   refine gen (q - a) a (gw a) (aq _) (by omega) (fun k' hk' hp => ?_) k hk hkq
   rcases hp with e | ⟨p, p1, p2, _⟩
   ·subst e; unfold fe; rw [if_pos rfl]; decide
   ·have := p1.1; omega
  exact hRq' q ⟨q1, q2, q3⟩ (aq _)
 generalize hDD : eF bM (dX bM l m n) l m (q - a) a (fe a) = D at hD1 hDq
 have hd := (hD1 q).nn hDq
 -- the block's own step
 rw [show z - q = 1 + ((j - (q + 1)) + (z - j)) by omega, rV]
 show dn 2 _ ≤ eF bM (dX bM l m n) l m ((j - (q + 1)) + (z - j)) (q + 1) (ej bM (dX bM l m n) l m q D) z
 have hWq := hW q q1 hqz
 have hrq := hr q (by omega)
 obtain ⟨s1, s2⟩ := oL hD1 hrq hWq
 have hD2 := fK eB hD1 hrq hWq
 have hop : eD l m q = [q + 1] := by unfold eD; rw [if_neg (by rw [ho]; decide), if_neg (by rw [ho]; decide), if_neg (by rw [ho]; decide)]
 have hcq : eo (dX bM l m n) l m q = 1 := by unfold eo; rw [if_neg (by rw [ho]; decide)]
 have h2 := s2 hDq (q + 1) (by rw [hop]; simp)
 rw [hcq] at h2
 generalize ej bM (dX bM l m n) l m q D = D2 at hD2 h2
 have h3 : (1 : Int) ≤ D2 (q + 1) := by
  have : (1 : Int) ≤ dn (D q) 1 := by unfold dn; split <;> omega
  omega
 -- what stands in it
 rw [rV, show q + 1 + (j - (q + 1)) = j by omega]
 have hw0 := kF eB hF hS (n + 1) (show Way l m (q + 1) j from hj ▸ hF.way (by omega) hqo)
 have hw1 : dX bM l m (n + 1) (q + 1) j = eF bM (dX bM l m n) l m (j - (q + 1)) (q + 1) (fe (q + 1)) j := rfl
 rw [hw1] at hw0
 have h4 := Gr hr (c := 1) (by decide) (W := dX bM l m n) (j - (q + 1)) (q + 1) (D := D2) (D0 := fe (q + 1)) hD2 (gw _) (by omega) (fun k k1 k2 => hW k (by omega) (by omega)) (fun k k1 k2 => by
  unfold fe at k2 ⊢
  by_cases e : k = q + 1
  ·subst e; rw [if_pos rfl]; unfold dn; split <;> omega
  ·rw [if_neg e] at k2; exact absurd rfl k2) j (by omega) (by omega)
 have hD3 := vw eB hr (W := dX bM l m n) (j - (q + 1)) (q + 1) hD2 (by omega) (fun k k1 k2 => hW k (by omega) (by omega))
 generalize eF bM (dX bM l m n) l m (j - (q + 1)) (q + 1) (fe (q + 1)) j = w at hw0 h4
 generalize eF bM (dX bM l m n) l m (j - (q + 1)) (q + 1) D2 = D3 at hD3 h4
 -- behind it
 rw [show z - j = (z - (j + 1)) + 1 by omega]
 show dn 2 w ≤ eF bM (dX bM l m n) l m (z - (j + 1)) (j + 1) (ej bM (dX bM l m n) l m j D3) z
 have hWj := hW j (by omega) (by omega)
 have hrj := hr j (by omega)
 obtain ⟨t1, t2⟩ := oL hD3 hrj hWj
 have h1w := fv (show (0 : Int) ≤ 1 by decide) hw0.1
 have hDj : D3 j ≠ -1 := by omega
 have hopj' : eD l m j = [j + 1] := by unfold eD; rw [if_neg (by rw [hopj]; decide), if_neg (by rw [hopj]; decide), if_neg (by rw [hopj]; decide)]
 have hcj : eo (dX bM l m n) l m j = 1 := by unfold eo; rw [if_neg (by rw [hopj]; decide)]
 have h5 := t2 hDj (j + 1) (by rw [hopj']; simp)
 rw [hcj] at h5
 refine EG hr hR.reg hW (by have := fv (show (0 : Int) ≤ 2 by decide) hw0.1; omega) (z - (j + 1)) (j + 1) (fK eB hD3 hrj hWj) (by omega) (by omega) ⟨j + 1, by omega, by omega, ?_⟩
 refine bg ?_ h5
 have : dn 2 w = dn (dn 1 w) 1 := by unfold dn; split <;> split <;> (try split) <;> omega
 rw [this]
 exact AW h4 (aE _)
theorem xU {l : List cY} (h : ec l = 0) {i : Nat} (hi : i < l.length) : ji l (dt l).1 i = false := by
 have hw := gE h
 unfold ec at h
 rw [if_neg (show ¬ (eT l ≠ 0) from fun k => k hw)] at h
 by_cases ha : eU (BU l (dt l).1) l.length 0 = true
 ·have := allF_iff.1 ha i (ao _) (by omega)
  unfold BU at this
  simpa using this
 ·rw [if_neg ha] at h
  cases h
theorem Mq {l : List cY} (h : ec l = 0) {p q : Nat} (hpq : p < q) (hq : q < l.length) (hp3 : dd l p = 23) (hq3 : dd l q = 23) : q < mN (dt l).1 p ∧ dJ l p < dJ l q := by
 have hs := jr (gE h)
 have hC := lB hs
 have hb := xU h hq
 unfold ji at hb
 rw [if_pos hq3, bE] at hb
 obtain ⟨hb1, hb2⟩ := hb
 obtain ⟨j, j1, j2, j3, j4, j5⟩ := hC.op_ p (by omega) (isOpen_iff.2 (.inr hp3))
 have hj : mN (dt l).1 p = j := by unfold mN; rw [j1]; rfl
 have hopj : dd l j = 24 := by
  show (l.getD j (0, 0, 0)).1 = 24
  rw [j4]
  unfold ends
  rw [if_neg (by rw [show (l.getD p (0, 0, 0)).1 = 23 from hp3]; decide)]
 have hlt : q < j := by
  rcases Nat.lt_trichotomy j q with hlt | he | hgt
  ·exfalso
   have : gX l q = true := anyB_iff.2 ⟨j, hlt, by simp [hopj]⟩
   rw [this] at hb1; cases hb1
  ·subst he; rw [hopj] at hq3; cases hq3
  ·exact hgt
 refine ⟨by omega, ?_⟩
 rcases Int.lt_or_le (dJ l p) (dJ l q) with h1 | h1
 ·exact h1
 ·exfalso
  have he : enc l (dt l).1 p q = true := (nS (isOpen_iff.2 (.inr hp3)) j1).2 ⟨hpq, by omega⟩
  have : pz l (dt l).1 q = true := anyB_iff.2 ⟨p, hpq, by rw [he, hp3]; simp; exact h1⟩
  rw [this] at hb2; cases hb2
theorem B8 {l : List cY} (h : ec l = 0) {a z q : Nat} (ha : a ≤ q) (hz : q ≤ z) (hq : q < l.length) (hq3 : dd l q = 23) : qO l (dt l).1 a z q := by
 have hs := jr (gE h)
 have hC := lB hs
 have hb := xU h hq
 unfold ji at hb
 rw [if_pos hq3, bE] at hb
 refine ⟨ha, hz, fun p p1 p2 p3 => ?_⟩
 obtain ⟨j, j1, j2, j3, j4, j5⟩ := hC.op_ p (by omega) (isOpen_iff.2 (.inl p3))
 have hj : mN (dt l).1 p = j := by unfold mN; rw [j1]; rfl
 rcases am (mN (dt l).1 p) q with h1 | h1
 ·exact h1
 ·exfalso
  have he : enc l (dt l).1 p q = true := (nS (isOpen_iff.2 (.inl p3)) j1).2 ⟨p2, by omega⟩
  have : pz l (dt l).1 q = true := anyB_iff.2 ⟨p, p2, by rw [he, p3]; simp⟩
  rw [this] at hb; cases hb.2
theorem EI {l : List cY} {m : List Int} {n : Nat} : ∀ (r i : Nat), ∀ e ∈ gx l m n r i, ∃ p, i ≤ p ∧ p < i + r ∧ dd l p = 23 ∧ e = (dJ l p, dX bM l m n (p + 1) (mN m p) + 1)
 | 0, i, e, he => by cases he
 | r + 1, i, e, he => by
  unfold gx at he
  rcases az.1 he with h | h
  ·split at h
   ·rename_i h3
    refine ⟨i, aq _, by omega, h3, ?_⟩
    simpa using h
   ·cases h
  ·obtain ⟨p, p1, p2, p3⟩ := EI r (i + 1) e h
   exact ⟨p, by omega, by omega, p3⟩
theorem wA {l : List cY} (h : ec l = 0) : Fine l (dt l).1 (dt l).2.1 ∧ Closed l (dt l).1 := ⟨nG (gE h), lB (jr (gE h))⟩
theorem Kc {l : List cY} {n : Nat} (h : ec l = 0) (hS : xS l) (hn : l.length < n) (hw : dX bM l (dt l).1 n 0 (l.length - 1) < 1048577) : ∀ (r i : Nat), i + r = l.length → (gx l (dt l).1 n r i).Pairwise (fun a b => b.2 + 2 ≤ a.2 ∧ a.1 < b.1) ∧ ∀ e ∈ gx l (dt l).1 n r i, 1 ≤ e.2 ∧ e.2 + 1 ≤ dX bM l (dt l).1 n 0 (l.length - 1) := by
 obtain ⟨hF, hC⟩ := wA h
 obtain ⟨l1, l2⟩ := hF.len
 have hend : ∀ p, p < l.length → dd l p = 23 → p < l.length - 1 := fun p hp h3 => by
  have := hF.succ hp (by rw [h3]; decide)
  omega
 have one : ∀ p, p < l.length → dd l p = 23 → 0 ≤ dX bM l (dt l).1 n (p + 1) (mN (dt l).1 p) ∧ dX bM l (dt l).1 n (p + 1) (mN (dt l).1 p) + 2 ≤ dX bM l (dt l).1 n 0 (l.length - 1) := fun p hp h3 => by
  have k1 := EH hF hC hS hn hF.wayAll (B8 h (ao p) (by have := hend p hp h3; omega) hp h3) (hend p hp h3) h3
  have k2 := kF eB hF hS n (hF.way hp (isOpen_iff.2 (.inr h3)))
  refine ⟨k2.1, ?_⟩
  unfold dn at k1
  split at k1 <;> omega
 intro r
 induction r with
 | zero => intro i hi; exact ⟨List.Pairwise.nil, fun e he => by cases he⟩
 | succ r ih =>
  intro i hi
  obtain ⟨g1, g2⟩ := ih (i + 1) (by omega)
  unfold gx
  by_cases h3 : dd l i = 23
  ·rw [if_pos h3]
   have hi1 : i < l.length := by omega
   obtain ⟨o1, o2⟩ := one i hi1 h3
   refine ⟨List.Pairwise.cons (fun e he => ?_) g1, fun e he => ?_⟩
   ·obtain ⟨p, p1, p2, p3, rfl⟩ := EI r (i + 1) e he
    have hp1 : p < l.length := by omega
    obtain ⟨c1, c2⟩ := Mq h (show i < p by omega) hp1 h3 p3
    have k1 := EH hF hC hS hn (hF.way hi1 (isOpen_iff.2 (.inr h3))) (B8 h (show i + 1 ≤ p by omega) (by omega) hp1 p3) c1 p3
    have k2 := (one p hp1 p3).1
    refine ⟨?_, c2⟩
    show _ + 1 + 2 ≤ _ + 1
    unfold dn at k1
    split at k1 <;> omega
   ·rcases aA.1 he with rfl | he
    ·exact ⟨by show 1 ≤ _ + 1; omega, by show _ + 1 + 1 ≤ _; omega⟩
    ·exact g2 e he
  ·rw [if_neg h3, bQ]
   exact ⟨g1, g2⟩
theorem PR {D E : Nat → Int} (hD : ∀ k, StepsI (D k)) (hE : ∀ k, StepsI (E k)) (h : ∀ k, (D k = -1 ↔ E k = -1) ∧ D k ≤ E k) {k : Nat} {u v : Int} (huv : u ≤ v) (hu : 0 ≤ u) : ∀ j, (er bL D k u j = -1 ↔ er bM E k v j = -1) ∧ er bL D k u j ≤ er bM E k v j := fun j => by
 unfold er
 by_cases e : j = k
 ·subst e
  rw [if_pos rfl, if_pos rfl]
  obtain ⟨h1, h2⟩ := h j
  by_cases e2 : D j = -1
  ·rw [if_pos e2, if_pos (h1.1 e2)]
   exact ⟨by constructor <;> intro <;> omega, huv⟩
  ·have e3 : ¬ E j = -1 := fun k => e2 (h1.2 k)
   rw [if_neg e2, if_neg e3]
   have a1 := ((hD j).nn e2).1
   have a2 := ((hE j).nn e3).1
   unfold bL bM
   split <;> split <;> exact ⟨by constructor <;> intro <;> omega, by omega⟩
 ·rw [if_neg e, if_neg e]
  exact h j
theorem Gs {u v : Int} (huv : u ≤ v) (hu : 0 ≤ u ∧ u ≤ 1048577) (hv : v ≤ 1048577) : ∀ (ks : List Nat) {D E : Nat → Int}, (∀ k, StepsI (D k)) → (∀ k, StepsI (E k)) → (∀ k, (D k = -1 ↔ E k = -1) ∧ D k ≤ E k) → ∀ j, (ks.foldl (fun g k => er bL g k u) D j = -1 ↔ ks.foldl (fun g k => er bM g k v) E j = -1) ∧ ks.foldl (fun g k => er bL g k u) D j ≤ ks.foldl (fun g k => er bM g k v) E j
 | [], D, E, hD, hE, h, j => h j
 | k :: ks, D, E, hD, hE, h, j => Gs huv hu hv ks (D := er bL D k u) (E := er bM E k v) (qN uQ hD k hu) (qN eB hE k ⟨by omega, hv⟩) (PR hD hE h huv hu.1) j
theorem Mr {v w A : Int} (hv : 0 ≤ v) (hvw : v ≤ w) (hw : w ≤ 1048577) (hA : 1 ≤ A) : f6 v A ≤ f6 w A := by
 have key : ∀ x : Int, 0 ≤ x → x ≤ 1048577 → (if x + 1 ≥ 1048577 then f6 x A = 1048577 else f6 x A = min (1 + A * (x + 1)) 1048577) := fun x hx hx2 => by
  unfold f6
  by_cases h : x + 1 ≥ 1048577
  ·rw [if_pos h]
   have : dn x 1 = 1048577 := by unfold dn; split <;> omega
   rw [if_pos this]
  ·rw [if_neg h]
   have : dn x 1 = x + 1 := by unfold dn; split <;> omega
   rw [this, if_neg (by omega)]
   unfold dn
   omega
 have k1 := key v hv (by omega)
 have k2 := key w (by omega) hw
 have hm : A * (v + 1) ≤ A * (w + 1) := Int.mul_le_mul_of_nonneg_left (by omega) (by omega)
 have hb : f6 v A ≤ 1048577 := (loopI_cap v A)
 split at k1 <;> split at k2 <;> omega
where
 loopI_cap (v A : Int) : f6 v A ≤ 1048577 := by
  unfold f6
  split
  ·omega
  ·unfold dn; split <;> omega
theorem Kd {W W' : Nat → Nat → Int} {l : List cY} {m : List Int} (hr : ∀ i, i < l.length → dH (l.getD i (0, 0, 0)) = true) : ∀ (r i : Nat) {D E : Nat → Int}, (∀ k, StepsI (D k)) → (∀ k, StepsI (E k)) → r + i ≤ l.length → (∀ k, i ≤ k → k < r + i → dd l k = 21 → StepsI (W (k + 1) (mN m k)) ∧ StepsI (W' (k + 1) (mN m k)) ∧ 0 ≤ W (k + 1) (mN m k) ∧ W (k + 1) (mN m k) ≤ W' (k + 1) (mN m k)) → (∀ k, (D k = -1 ↔ E k = -1) ∧ D k ≤ E k) → ∀ j, (eF bL W l m r i D j = -1 ↔ eF bM W' l m r i E j = -1) ∧ eF bL W l m r i D j ≤ eF bM W' l m r i E j
 | 0, i, D, E, hD, hE, hl, hW, h, j => h j
 | r + 1, i, D, E, hD, hE, hl, hW, h, j => by
  have hWi := hW i (aq _) (by omega)
  have hri := hr i (by omega)
  have w1 := ij hri (fun e => (hWi e).1)
  have w2 := ij hri (fun e => (hWi e).2.1)
  have hc : eo W l m i ≤ eo W' l m i := by
   unfold eo
   by_cases e : dd l i = 21
   ·rw [if_pos e, if_pos e]
    obtain ⟨q1, q2, q3, q4⟩ := hWi e
    have hA : 1 ≤ dJ l i := by
     have hri' := hri
     rw [show l.getD i (0, 0, 0) = (21, dJ l i, (l.getD i (0, 0, 0)).2.2) from by rw [← e]] at hri'
     exact (vv hri').1
    exact Mr q3 q4 (q2.nn (by omega)).2 hA
   ·rw [if_neg e, if_neg e]; omega
  refine Kd hr r (i + 1) (fK uQ hD hri (fun e => (hWi e).1)) (fK eB hE hri (fun e => (hWi e).2.1)) (by omega) (fun k h1 h2 => hW k (by omega) (by omega)) (fun k => ?_) j
  unfold ej
  by_cases e : D i = -1
  ·rw [if_pos e, if_pos ((h i).1.1 e)]
   exact h k
  ·have e' : ¬ E i = -1 := fun x => e ((h i).1.2 x)
   rw [if_neg e, if_neg e']
   exact Gs (AW (h i).2 hc) (fv ((hD i).nn e).1 w1.1) (fv ((hE i).nn e').1 w2.1).2 _ hD hE h k
theorem Ke {l : List cY} {m h : List Int} (hF : Fine l m h) (hS : xS l) : ∀ (f : Nat) {a z : Nat}, Way l m a z → dX bL l m f a z ≤ dX bM l m f a z
 | 0, a, z, hR => aE _
 | f + 1, a, z, hR => by
  have hlt := hR.reg.lt
  have hle := hR.reg.le
  refine (Kd (fun i hi => hF.right hi) (z - a) a (gw a) (gw a) (by omega) (fun k k1 k2 k3 => ?_) (fun k => ⟨Iff.rfl, aE _⟩) z).2
  have hk := hF.way (show k < l.length by omega) (isOpen_iff.2 (.inl k3))
  exact ⟨js uQ hF f hk.reg, js eB hF f hk.reg, (kF uQ hF hS f hk).1, Ke hF hS f hk⟩
theorem rW (n : Nat) (l : List cY) (h : (eG bM n l).2 = 0) : (eG bL n l).2 = 0 ∧ 1 ≤ (eG bL n l).1 ∧ (eG bL n l).1 ≤ (eG bM n l).1 ∧ (eG bM n l).1 = dX bM l (dt l).1 n 0 (l.length - 1) + 1 ∧ (eG bM n l).1 ≤ 1048576 := by
 obtain ⟨h1, h2⟩ := rU h
 obtain ⟨hF, hC⟩ := wA h1
 have hS := (AV h2).2
 have r1 := kF uQ hF hS n hF.wayAll
 have r2 := kF eB hF hS n hF.wayAll
 have r3 := Ke hF hS n hF.wayAll
 unfold eG at h ⊢
 rw [if_neg (show ¬ (ec l ≠ 0) from fun k => k h1), if_neg (show ¬ (fJ l ≠ 0) from fun k => k h2)] at h ⊢
 rw [if_neg (show ¬ (ec l ≠ 0) from fun k => k h1), if_neg (show ¬ (fJ l ≠ 0) from fun k => k h2)]
 split at h
 ·cases h
 ·rename_i hne
  rw [if_neg hne]
  unfold dn at hne ⊢
  split at hne
  ·exact absurd rfl hne
  ·rename_i h5
   rw [if_neg h5, if_neg (show ¬ (1048577 < dX bL l (dt l).1 n 0 (l.length - 1) + 1) by omega), if_neg (by omega)]
   exact ⟨rfl, by show 1 ≤ _ + 1; omega, by show _ + 1 ≤ _ + 1; omega, rfl, by show _ + 1 ≤ (1048576 : Int); omega⟩
theorem d6 {X R : Type} {S : (X → Option R) → X → Option R} (Q : Nat → X → R → Prop) (h0 : ∀ x r, ¬ Q 0 x r) (h : ∀ f x F, (∀ y r, Q f y r → F y = some r) → ∀ r, Q (f + 1) x r → S F x = some r) : ∀ f x r, Q f x r → it S f x = some r
 | 0, x, r, hq => absurd hq (h0 x r)
 | f + 1, x, r, hq => h f x (it S f) (d6 Q h0 h f) r hq
abbrev Tsk := Int × Int × Int × Int × List Int × List Int × List cY
abbrev Img := Int × Int × Int × Int × List Int × List (List Int) × List Tsk
abbrev Tsk.blocks (t : Tsk) : List Int := t.2.2.2.2.1
abbrev Tsk.outs (t : Tsk) : List Int := t.2.2.2.2.2.1
abbrev Tsk.code (t : Tsk) : List cY := t.2.2.2.2.2.2
abbrev Img.inputs (m : Img) : Int := m.2.2.2.1
abbrev Img.safe (m : Img) : List Int := m.2.2.2.2.1
abbrev Img.blocks (m : Img) : List (List Int) := m.2.2.2.2.2.1
abbrev Img.tasks (m : Img) : List Tsk := m.2.2.2.2.2.2
theorem dP {α : Type} {l : List α} {i : Nat} {d : α} (h : i < l.length) : l.drop i = l.getD i d :: l.drop (i + 1) := by
 rw [b8 h, ar, av h]
 rfl
theorem Nq (n : Nat) (t : Tsk) (m : Img) (p : Int) (hl : t.outs.length < n) (hn : n < 1000000) : tT n (t, m) p = some (t.outs.contains p) := by
 unfold tT tS
 have := d6 (S := fun F => (dm q_) (qo n F)) (fun f x r => ∃ i : Nat, x = (p, t.outs, (t.outs.length : Int), (i : Int)) ∧ i ≤ t.outs.length ∧ t.outs.length < f + i ∧ r = if (t.outs.drop i).contains p = true then .inl ((true, ()), ()) else .inr ((), ())) (fun x r ⟨i, _, h1, h2, _⟩ => by omega) (fun f x F hF r => ?_) n (p, t.outs, (t.outs.length : Int), 0) _ ⟨0, rfl, ao _, by omega, rfl⟩
 ·rw [this, bb]
  cases h : t.outs.contains p <;> rfl
 ·rintro ⟨i, rfl, h1, h2, rfl⟩
  show qo n F p t.outs (t.outs.length : Int) (i : Int) = _
  unfold qo
  rcases am i t.outs.length with hlt | hge
  ·rw [if_pos (af (by omega)), if_pos (dc hlt), ai, di (by omega), dP (d := (0 : Int)) hlt, List.contains_cons]
   by_cases e : t.outs.getD i 0 = p
   ·rw [if_pos (ag.2 e), e, bc, Bool.true_or, if_pos rfl]
   ·rw [if_neg (fun h => e (ag.1 h))]
    have e2 : (p == t.outs.getD i 0) = false := by rw [aQ]; exact fun h => e h.symm
    rw [e2, cr]
    exact hF _ _ ⟨i + 1, rfl, by omega, by omega, rfl⟩
  ·have : i = t.outs.length := by omega
   subst this
   rw [if_neg (by simp), aU]
   rfl
def jt (m : Img) (t : Tsk) (i : cY) : Bool :=
 if i.1 = 15 then decide (i.2.1 < m.inputs) else if i.1 = 16 then t.outs.contains i.2.1 else if i.1 = 17 then decide (i.2.2 < ((m.blocks.getD i.2.1.toNat []).length : Int)) else if i.1 = 18 then decide (i.2.2 < ((m.blocks.getD i.2.1.toNat []).length : Int)) else true
theorem Nr (n : Nat) (t : Tsk) (m : Img) (i : cY) (ho : t.outs.length < n) (hn : n < 1000000) (hb : i.1 = 17 ∨ i.1 = 18 → 0 ≤ i.2.1 ∧ i.2.1 < (m.blocks.length : Int)) (l : List cY) (v k : Int) :
  yU n true l v k t.1 t.2.1 t.2.2.1 t.2.2.2.1 t.2.2.2.2.1 t.2.2.2.2.2.1 t.2.2.2.2.2.2 m.1 m.2.1 m.2.2.1 m.2.2.2.1 m.2.2.2.2.1 m.2.2.2.2.2.1 m.2.2.2.2.2.2 i.1 i.2.1 i.2.2 = some (jt m t i, l, v, k, t.1, t.2.1, t.2.2.1, t.2.2.2.1, t.2.2.2.2.1, t.2.2.2.2.2.1, t.2.2.2.2.2.2, m.1, m.2.1, m.2.2.1, m.2.2.2.1, m.2.2.2.2.1, m.2.2.2.2.2.1, m.2.2.2.2.2.2, i.1, i.2.1, i.2.2) := by
 unfold yU jt
 by_cases h15 : i.1 = 15
 ·rw [if_pos (ag.2 h15), if_pos h15]
 rw [if_neg (fun h => h15 (ag.1 h)), if_neg h15]
 by_cases h16 : i.1 = 16
 ·rw [if_pos (ag.2 h16), if_pos h16]
  have := Nq n t m i.2.1 ho hn
  show ((tT n (t, m) i.2.1).bind _) = _
  rw [this]; rfl
 rw [if_neg (fun h => h16 (ag.1 h)), if_neg h16]
 by_cases h17 : i.1 = 17
 ·have := hb (.inl h17)
  rw [if_pos (ag.2 h17), if_pos h17, if_pos (by rw [af this.1, af this.2]; rfl)]
 rw [if_neg (fun h => h17 (ag.1 h)), if_neg h17]
 by_cases h18 : i.1 = 18
 ·have := hb (.inr h18)
  rw [if_pos (ag.2 h18), if_pos h18, if_pos (by rw [af this.1, af this.2]; rfl)]
 rw [if_neg (fun h => h18 (ag.1 h)), if_neg h18]
theorem Ms (n : Nat) (t : Tsk) (m : Img) (hl : t.code.length < n) (ho : t.outs.length < n) (hn : n < 1000000) (hb : ∀ i ∈ t.code, i.1 = 17 ∨ i.1 = 18 → 0 ≤ i.2.1 ∧ i.2.1 < (m.blocks.length : Int)) : yV n (t, m) = some (if t.code.all (jt m t) = true then 0 else 12) := by
 unfold yV xt
 have := d6 (S := fun F => (e8 (dM (dm (C_ q_)))) (tV n F))
  (fun f x r => ∃ i : Nat, x = (t.code, (t.code.length : Int), (i : Int), t.1, t.2.1, t.2.2.1, t.2.2.2.1, t.2.2.2.2.1, t.2.2.2.2.2.1, t.2.2.2.2.2.2, m) ∧ i ≤ t.code.length ∧ t.code.length < f + i ∧ r = if (t.code.drop i).all (jt m t) = true then .inr ((), ((t.1, t.2.1, t.2.2.1, t.2.2.2.1, t.2.2.2.2.1, t.2.2.2.2.2.1, t.2.2.2.2.2.2, m.1, m.2.1, m.2.2.1, m.2.2.2.1, m.2.2.2.2.1, m.2.2.2.2.2.1, m.2.2.2.2.2.2, ()), ())) else .inl ((12, ()), ((t.1, t.2.1, t.2.2.1, t.2.2.2.1, t.2.2.2.2.1, t.2.2.2.2.2.1, t.2.2.2.2.2.2, m.1, m.2.1, m.2.2.1, m.2.2.2.1, m.2.2.2.2.1, m.2.2.2.2.2.1, m.2.2.2.2.2.2, ()), ()))) (fun x r ⟨i, _, h1, h2, _⟩ => by omega) (fun f x F hF r => ?_) n (t.code, (t.code.length : Int), 0, t.1, t.2.1, t.2.2.1, t.2.2.2.1, t.2.2.2.2.1, t.2.2.2.2.2.1, t.2.2.2.2.2.2, m) _ ⟨0, rfl, ao _, by omega, rfl⟩
 ·try dsimp only at this ⊢
  rw [this, bb]
  cases h : t.code.all (jt m t) <;> rfl
 ·rintro ⟨i, rfl, h1, h2, rfl⟩
  show tV n F t.code (t.code.length : Int) (i : Int) t.1 t.2.1 t.2.2.1 t.2.2.2.1 t.2.2.2.2.1 t.2.2.2.2.2.1 t.2.2.2.2.2.2 m.1 m.2.1 m.2.2.1 m.2.2.2.1 m.2.2.2.2.1 m.2.2.2.2.2.1 m.2.2.2.2.2.2 = _
  unfold tV
  rcases am i t.code.length with hlt | hge
  ·have hm : t.code.getD i (0, 0, 0) ∈ t.code := by rw [ar, av hlt]; exact aT hlt
   rw [if_pos (af (by omega)), if_pos (dc hlt), ai, Nr n t m _ ho hn (hb _ hm), dP (d := ((0 : Int), (0 : Int), (0 : Int))) hlt, b6]
   simp only [ae]
   cases e : jt m t (t.code.getD i (0, 0, 0)) with
   | true =>
    rw [if_neg (by simp), di (by omega), aS]
    exact hF _ _ ⟨i + 1, rfl, by omega, by omega, rfl⟩
   | false => rfl
  ·have : i = t.code.length := by omega
   subst this
   rw [if_neg (by simp), aU]
   rfl
theorem Kf (l : List cY) (i : Nat) : (j7 l i).length ≤ 1 := by unfold j7; split <;> simp
theorem B9 (l : List cY) : ∀ (r i : Nat), (gu l r i).length ≤ r
 | 0, i => by simp [gu]
 | r + 1, i => by
  have := B9 l r (i + 1)
  have h1 := Kf l i
  rw [show gu l (r + 1) i = j7 l i ++ gu l r (i + 1) from rfl, aL]
  omega
theorem Kg (l : List cY) : (fk l).length ≤ l.length := by
 unfold fk
 split
 ·exact B9 l _ _
 ·simp
theorem Kh (n : Nat) (t : Tsk) (m : Img) (hl : t.code.length < n) (hn3 : 3 < n) (hn : n < 1000000) : tQ n (t, m) = some (if ec t.code ≠ 0 then ec t.code else if fk t.code = t.blocks then 0 else 11) := by
 unfold tQ
 rw [show mE n ((t, m) : Tsk × Img).1.2.2.2.2.2.2 = some (fk t.code, ec t.code) from BV n t.code hl hn]
 simp only [ae]
 by_cases h0 : ec t.code ≠ 0
 ·rw [if_pos (ak.2 h0), if_pos h0]
 rw [if_neg (fun h => h0 (ak.1 h)), if_neg h0]
 by_cases hlen : (fk t.code).length ≠ t.blocks.length
 ·rw [if_pos (show ((((fk t.code).length : Nat) : Int) != ((t.2.2.2.2.1.length : Nat) : Int)) = true from ak.2 (fun h => hlen (Int.ofNat.inj h))), if_neg (fun h => hlen (by rw [h]))]
 have hlen : (fk t.code).length = t.blocks.length := Decidable.not_not.1 hlen
 rw [if_neg (show ¬ ((((fk t.code).length : Nat) : Int) != ((t.2.2.2.2.1.length : Nat) : Int)) = true from fun h => ak.1 h (congrArg Int.ofNat hlen))]
 unfold tP
 have hk : (fk t.code).length ≤ t.code.length := Kg t.code
 generalize fk t.code = L at hlen hk
 have := d6 (S := fun F => (e8 (dM (dm (C_ q_)))) (qn n F))
  (fun f x r => ∃ i : Nat, x = (L, (L.length : Int), (i : Int), t.1, t.2.1, t.2.2.1, t.2.2.2.1, t.2.2.2.2.1, t.2.2.2.2.2.1, t.2.2.2.2.2.2, m) ∧ i ≤ L.length ∧ L.length < f + i ∧ r = if L.drop i = t.blocks.drop i then .inr ((), ((t.1, t.2.1, t.2.2.1, t.2.2.2.1, t.2.2.2.2.1, t.2.2.2.2.2.1, t.2.2.2.2.2.2, m.1, m.2.1, m.2.2.1, m.2.2.2.1, m.2.2.2.2.1, m.2.2.2.2.2.1, m.2.2.2.2.2.2, ()), ())) else .inl ((11, ()), ((t.1, t.2.1, t.2.2.1, t.2.2.2.1, t.2.2.2.2.1, t.2.2.2.2.2.1, t.2.2.2.2.2.2, m.1, m.2.1, m.2.2.1, m.2.2.2.1, m.2.2.2.2.1, m.2.2.2.2.2.1, m.2.2.2.2.2.2, ()), ()))) (fun x r ⟨i, _, h1, h2, _⟩ => by omega) (fun f x F hF r => ?_) n (L, (L.length : Int), 0, t.1, t.2.1, t.2.2.1, t.2.2.2.1, t.2.2.2.2.1, t.2.2.2.2.2.1, t.2.2.2.2.2.2, m) _ ⟨0, rfl, ao _, by omega, rfl⟩
 ·try dsimp only at this ⊢
  rw [this, bb, bb]
  by_cases h : L = t.blocks
  ·rw [if_pos h, if_pos h]; rfl
  ·rw [if_neg h, if_neg h]; rfl
 ·rintro ⟨i, rfl, h1, h2, rfl⟩
  show qn n F L (L.length : Int) (i : Int) t.1 t.2.1 t.2.2.1 t.2.2.2.1 t.2.2.2.2.1 t.2.2.2.2.2.1 t.2.2.2.2.2.2 m.1 m.2.1 m.2.2.1 m.2.2.2.1 m.2.2.2.2.1 m.2.2.2.2.2.1 m.2.2.2.2.2.2 = _
  unfold qn
  rcases am i L.length with hlt | hge
  ·have hlt2 : i < t.2.2.2.2.1.length := by have : t.blocks.length = t.2.2.2.2.1.length := rfl; omega
   rw [if_pos (af (by omega)), if_pos (dc hlt), if_pos (dc hlt2), ai, dP (d := (0 : Int)) hlt, show t.blocks.drop i = t.2.2.2.2.1.getD i 0 :: t.blocks.drop (i + 1) from dP (d := (0 : Int)) hlt2]
   by_cases e : L.getD i 0 = t.2.2.2.2.1.getD i 0
   ·rw [if_neg (fun h => ak.1 h e), di (by omega), e]
    refine hF _ _ ⟨i + 1, rfl, by omega, by omega, ?_⟩
    simp only [bA, true_and]
   ·rw [if_pos (ak.2 e), if_neg (fun h => e (List.cons.inj h).1)]
  ·have : i = L.length := by omega
   subst this
   rw [if_neg (by simp), aU, hlen, aU]
   rfl
theorem rX (n : Int) : IntKind.u64.wrap n = n % 18446744073709551616 := by simp [IntKind.wrap, IntKind.bits, IntKind.signed]
theorem Ns (n : Nat) (a : Int) : ∃ y, me n a = some y ∧ 0 ≤ y ∧ y < 18446744073709551616 := by
 unfold me
 refine ⟨_, rfl, ?_, ?_⟩
 ·unfold bits
  rw [rX]
  exact Int.emod_nonneg _ (by decide)
 ·unfold bits
  rw [rX]
  exact Int.emod_lt_of_pos _ (by decide)
theorem EJ (n : Nat) : ∀ (f g : Nat) (o : List Int) (v : Int), 0 ≤ v → v < 128 ^ g → g < f → o.length + g < 1000 → ∃ o' v', it (fun F => q_ (iJ n F)) f (o, v) = some (o', v') ∧ o'.length ≤ o.length + g
 | 0, g, o, v, h0, h1, hg, h2 => by omega
 | f + 1, g, o, v, h0, h1, hg, h2 => by
  have ih := EJ n f
  show ∃ o' v', iJ n (it _ f) o v = some (o', v') ∧ _
  generalize it (fun F => q_ (iJ n F)) f = F at ih ⊢
  unfold iJ
  by_cases h : 128 ≤ v
  ·obtain _ | g := g
   ·rw [Int.pow_zero] at h1
    omega
   rw [if_pos (af h), if_pos (by rw [af (by omega), af (by omega)]; rfl)]
   have hd : v.tdiv 128 = v / 128 := cd h0
   have hv : v / 128 < 128 ^ g := by
    rw [Int.pow_succ] at h1
    exact Int.ediv_lt_of_lt_mul (by decide) h1
   obtain ⟨o', v', h3, h4⟩ := ih g (o ++ [(IntKind.wrap .u8 (IntKind.wrap .u64 ((v.tmod 128) + 128)))]) ((IntKind.wrap .u64 (v.tdiv 128))) (by rw [rX]; exact Int.emod_nonneg _ (by decide)) (by
    rw [rX, hd]
    exact Int.lt_of_le_of_lt (by omega) hv) (by omega) (by rw [aL]; show _ + 1 + g < 1000; omega)
   rw [aL] at h4
   exact ⟨o', v', h3, by have : [IntKind.u8.wrap (IntKind.u64.wrap (v.tmod 128 + 128))].length = 1 := rfl; omega⟩
  ·rw [if_neg (by simpa using h)]
   exact ⟨o, v, rfl, by omega⟩
theorem uU (l : List Int) : (ev l).size = l.length := by
 unfold ev ByteArray.size
 simp
theorem Ki (n : Nat) (hn : 10 < n) (a : Int) : ∃ y, fx n a = some y ∧ y.size ≤ 11 := by
 obtain ⟨u, h1, h2, h3⟩ := Ns n a
 unfold fx nb
 rw [h1, ae]
 obtain ⟨o, v, h4, h5⟩ := EJ n n 10 [] u h2 (Int.lt_trans h3 (by decide)) hn (by decide)
 have h5 : o.length ≤ 10 := by simpa using h5
 rw [h4, ae]
 dsimp only
 rw [if_pos (by rw [af (by omega), af (by omega)]; rfl)]
 refine ⟨_, rfl, ?_⟩
 rw [uU, aL]
 show _ + 1 ≤ 11
 omega
theorem Nt (n : Nat) (x : cY) : ∃ y, lS n x.1 = some y := by
 have h := fu n x
 unfold db at h
 match h2 : lS n x.1 with
 | some y => exact ⟨y, rfl⟩
 | none => rw [h2] at h; cases h
theorem EK (y : ByteArray) : ∀ (k i : Nat) (r : List UInt8), y.size - i = k → r.length ≤ (ByteArray.toList.loop y i r).length
 | 0, i, r, h => by
  unfold ByteArray.toList.loop
  rw [if_neg (by omega), List.length_reverse]
  exact aq _
 | k + 1, i, r, h => by
  unfold ByteArray.toList.loop
  rw [if_pos (by omega)]
  have := EK y k (i + 1) (y.get! i :: r) (by omega)
  rw [aF] at this
  omega
theorem EL : (ByteArray.mk #[]).toList = [] := by
 unfold ByteArray.toList ByteArray.toList.loop
 rw [if_neg (by decide)]
 rfl
theorem qP {y : ByteArray} (h : 0 < y.size) : (y.toList == (ByteArray.mk #[]).toList) = false := by
 rw [EL, aQ]
 intro h1
 have : (ByteArray.toList.loop y 0 []).length = 0 := by
  have : y.toList = ByteArray.toList.loop y 0 [] := rfl
  rw [← this, h1]
  rfl
 unfold ByteArray.toList.loop at this
 rw [if_pos h] at this
 have h2 := EK y _ (0 + 1) [y.get! 0] rfl
 rw [this] at h2
 exact absurd h2 (Nat.not_succ_le_zero 0)
theorem Ca (n : Nat) (hn : 10 < n) (x : cY) : ∃ y, eW n x = some y ∧ y.size ≤ 30 ∧ (y.toList == (ByteArray.mk #[]).toList) = !dH x := by
 obtain ⟨o, ho⟩ := Nt n x
 obtain ⟨p, hp1, hp2⟩ := Ki n hn x.2.1
 obtain ⟨q, hq1, hq2⟩ := Ki n hn x.2.2
 have hs : (ev ([(IntKind.wrap .u8 x.1)])).size = 1 := uU _
 unfold eW iX
 have hr : db n (x.1, x.2.1, x.2.2) = some (dH x) := fu n x
 rw [hr, ae]
 cases hb : dH x with
 | false => exact ⟨_, rfl, by decide, by rw [bc]; rfl⟩
 | true =>
  rw [if_neg (by simp), ho, hp1, hq1]
  simp only [ae]
  split
  ·rw [if_pos (af (by omega))]
   split
   ·have : (ev ([(IntKind.wrap .u8 x.1)]) ++ p).size = 1 + p.size := by rw [bG, hs]
    rw [if_pos (af (by omega))]
    refine ⟨_, rfl, ?_, ?_⟩
    ·rw [bG, this]; omega
    ·exact qP (by rw [bG, this]; omega)
   ·have : (ev ([(IntKind.wrap .u8 x.1)]) ++ p).size = 1 + p.size := by rw [bG, hs]
    exact ⟨_, rfl, by omega, qP (by omega)⟩
  ·split
   ·rw [if_pos (af (by omega))]
    have : (ev ([(IntKind.wrap .u8 x.1)]) ++ q).size = 1 + q.size := by rw [bG, hs]
    exact ⟨_, rfl, by omega, qP (by omega)⟩
   ·exact ⟨_, rfl, by omega, qP (by omega)⟩
def Says (o : Option Bool) (p : Prop) : Prop := ∃ b, o = some b ∧ (b = true ↔ p)
theorem Says.dec {p : Prop} [Decidable p] : Says (some (decide p)) p := ⟨_, rfl, bY⟩
theorem Says.and {o : Option Bool} {f : Bool → Option Bool} {p q : Prop} (h : Says o p) (k : Says (f true) q) (g : f false = some false) : Says (o.bind f) (p ∧ q) := by
 obtain ⟨b, h1, h2⟩ := h
 obtain ⟨c, k1, k2⟩ := k
 rw [h1]
 cases b with
 | true => exact ⟨c, k1, by rw [k2]; exact ⟨fun e => ⟨h2.1 rfl, e⟩, fun e => e.2⟩⟩
 | false => exact ⟨false, g, ⟨fun e => absurd e (by decide), fun e => absurd (h2.2 e.1) (by decide)⟩⟩
theorem Says.iff {o : Option Bool} {p q : Prop} (h : Says o p) (k : p ↔ q) : Says o q := by
 obtain ⟨b, h1, h2⟩ := h
 exact ⟨b, h1, h2.trans k⟩
theorem Says.no {p : Prop} (h : ¬ p) : Says (some false) p := ⟨false, rfl, fun e => absurd e (by decide), fun e => absurd e h⟩
def Rises (e : Int) : Int → List Int → Prop
 | _, [] => True
 | b, x :: l => b < x ∧ x < e ∧ Rises e x l
theorem EM (n : Nat) (l : List Int) (e : Int) (he : 0 ≤ e) (hen : e + 1 < n) (hn : n < 1000000) : Says (iw n l e) (Rises e (-1) l) := by
 unfold iw ko
 have := d6 (S := fun F => (dm (C_ q_)) (gO n F)) (fun f x r => ∃ (i : Nat) (b : Int) (c : Bool), x = (e, b, l, (l.length : Int), (i : Int)) ∧ (i ≤ l.length ∧ (i : Int) ≤ b + 1 ∧ b < e) ∧ e < b + f ∧ (c = true ↔ Rises e b (l.drop i)) ∧ r = if c = true then .inr ((), ()) else .inl ((false, ()), ())) (fun x r ⟨i, b, c, _, h1, h2, _⟩ => by omega) (fun f x F hF r => ?_) n (e, -1, l, (l.length : Int), 0)
 ·classical
  refine ⟨decide (Rises e (-1) l), ?_, bY⟩
  rw [this _ ⟨0, -1, decide (Rises e (-1) l), rfl, ⟨ao _, by omega, by omega⟩, by omega, bY, rfl⟩]
  cases decide (Rises e (-1) l) <;> rfl
 ·rintro ⟨i, b, c, rfl, h1, h2, hc, rfl⟩
  show gO n F e b l (l.length : Int) (i : Int) = _
  unfold gO
  rcases am i l.length with hlt | hge
  ·rw [dP (d := (0 : Int)) hlt] at hc
   rw [if_pos (af (by omega)), if_pos (dc hlt), ai, di (by omega)]
   have hno : ∀ (h : ¬ (b < l.getD i 0 ∧ l.getD i 0 < e)), c = false := fun h => by
    cases c with
    | false => rfl
    | true => exact absurd ⟨(hc.1 rfl).1, (hc.1 rfl).2.1⟩ h
   by_cases g1 : l.getD i 0 ≤ b
   ·rw [if_pos (af g1), hno (by omega)]; rfl
   rw [if_neg (by simpa using g1)]
   by_cases g2 : l.getD i 0 ≥ e
   ·rw [if_pos (af g2), hno (by omega)]; rfl
   rw [if_neg (by simpa using g2)]
   exact hF _ _ ⟨i + 1, l.getD i 0, c, rfl, by omega, by omega, hc.trans ⟨fun h => h.2.2, fun h => ⟨by omega, by omega, h⟩⟩, rfl⟩
  ·have : i = l.length := by omega
   subst this
   rw [aU] at hc
   rw [if_neg (by simp), if_pos (hc.2 trivial)]
theorem Rises.len {e : Int} : ∀ {l : List Int} {b : Int}, Rises e b l → b < e → (l.length : Int) ≤ e - 1 - b
 | [], b, _, h => by simp; omega
 | x :: l, b, h, h1 => by
  have := Rises.len h.2.2 h.2.1
  have := h.1
  rw [aF]
  omega
theorem Rises.mem {e : Int} : ∀ {l : List Int} {b : Int}, Rises e b l → ∀ x ∈ l, b < x ∧ x < e
 | x :: l, b, h, y, hy => by
  rcases aA.1 hy with rfl | hy
  ·exact ⟨h.1, h.2.1⟩
  ·have := Rises.mem h.2.2 y hy
   have := h.1
   omega
theorem Fv {y : ByteArray} (h : y.size = 0) : y.toList = [] := by
 unfold ByteArray.toList ByteArray.toList.loop
 rw [if_neg (by omega)]
 rfl
def xV (n : Nat) (s : ByteArray) (l : List cY) : ByteArray := l.foldl (fun s x => s ++ (eW n x).getD (ByteArray.mk #[])) s
theorem Fw (n : Nat) (hn : 10 < n) {x : cY} (hx : dH x = true) : ∃ y, eW n x = some y ∧ 1 ≤ y.size ∧ y.size ≤ 30 := by
 obtain ⟨y, h1, h2, h3⟩ := Ca n hn x
 refine ⟨y, h1, ?_, h2⟩
 rcases bP y.size with h | h
 ·rw [Fv h, EL, hx] at h3
  exact absurd h3 (by decide)
 ·exact h
theorem Cb (n : Nat) (hn : 10 < n) : ∀ (l : List cY) (s : ByteArray), (∀ x ∈ l, dH x = true) → s.size + l.length ≤ (xV n s l).size
 | [], s, _ => aq _
 | x :: l, s, h => by
  obtain ⟨y, h1, h2, _⟩ := Fw n hn (h x aB)
  have := Cb n hn l (s ++ (eW n x).getD (ByteArray.mk #[])) fun y hy => h y (ax _ hy)
  rw [bG, h1, bq] at this
  show _ ≤ (xV n (s ++ (eW n x).getD (ByteArray.mk #[])) l).size
  rw [h1, bq, aF]
  omega
def EN (l : List cY) : Prop := 1 ≤ l.length ∧ l.length ≤ 200 ∧ ∀ x ∈ l, dH x = true
theorem Nu (n : Nat) (hn : 200 < n) (l : List cY) : Says ((mD n l).bind fun y4 => some (!(y4.toList == (ByteArray.mk #[]).toList))) (EN l) := by
 unfold mD oj
 by_cases hl : ¬ l.length ≤ 200
 ·rw [if_pos (af (by omega)), ae, bc]
  exact Says.no (fun h => hl h.2.1)
 have hl : l.length ≤ 200 := Decidable.not_not.1 hl
 rw [if_neg (by simp; omega)]
 have := d6 (S := fun F => (dm q_) (k0 n F)) (fun f x r => ∃ (i : Nat) (s : ByteArray), x = (s, l, (l.length : Int), (i : Int)) ∧ i ≤ l.length ∧ l.length < f + i ∧ s.size ≤ 30 * i ∧ r = if (l.drop i).all dH = true then .inr ((xV n s (l.drop i), ()), ()) else .inl ((ByteArray.mk #[], ()), ())) (fun x r ⟨i, s, _, h1, h2, _⟩ => by omega) (fun f x F hF r => ?_) n (ByteArray.mk #[], l, (l.length : Int), 0) _ ⟨0, _, rfl, ao _, by omega, by decide, rfl⟩
 ·rw [this, bb, ae]
  cases h : l.all dH with
  | true =>
   have hr : ∀ x ∈ l, dH x = true := aK.1 h
   have hs := Cb n (by omega) l (ByteArray.mk #[]) hr
   refine Says.iff (p := 1 ≤ l.length) ?_ ⟨fun h => ⟨h, hl, hr⟩, fun h => h.1⟩
   refine ⟨_, rfl, ?_⟩
   show (!((xV n (ByteArray.mk #[]) l).toList == (ByteArray.mk #[]).toList)) = true ↔ _
   by_cases h1 : 1 ≤ l.length
   ·rw [qP (by omega)]
    exact ⟨fun _ => h1, fun _ => rfl⟩
   ·have : l = [] := List.length_eq_zero_iff.1 (by omega)
    subst this
    rw [show xV n (ByteArray.mk #[]) [] = ByteArray.mk #[] from rfl, bc]
    exact ⟨fun h => absurd h (by decide), fun h => absurd h h1⟩
  | false =>
   rw [if_neg (by decide)]
   show Says (some (!((ByteArray.mk #[]).toList == (ByteArray.mk #[]).toList))) _
   rw [bc]
   exact Says.no (fun k => by rw [aK.2 k.2.2] at h; cases h)
 ·rintro ⟨i, s, rfl, h1, h2, hs, rfl⟩
  show k0 n F s l (l.length : Int) (i : Int) = _
  unfold k0
  rcases am i l.length with hlt | hge
  ·obtain ⟨y, e1, e2, e3⟩ := Ca n (by omega) (l.getD i (0, 0, 0))
   rw [if_pos (af (by omega)), if_pos (dc hlt), ai, di (by omega), show eW n ((l.getD i (0, 0, 0)).1, (l.getD i (0, 0, 0)).2.1, (l.getD i (0, 0, 0)).2.2) = some y from e1, ae, e3, dP (d := ((0 : Int), (0 : Int), (0 : Int))) hlt, b6]
   cases hb : dH (l.getD i (0, 0, 0)) with
   | false => rfl
   | true =>
    rw [if_neg (by decide), if_pos (af (by omega)), aS]
    refine hF _ _ ⟨i + 1, _, rfl, by omega, by omega, by rw [bG]; omega, ?_⟩
    rw [show xV n s (l.getD i (0, 0, 0) :: l.drop (i + 1)) = xV n (s ++ (eW n (l.getD i (0, 0, 0))).getD (ByteArray.mk #[])) (l.drop (i + 1)) from rfl, e1, bq]
  ·have : i = l.length := by omega
   subst this
   rw [if_neg (by simp), aU]
   rfl
def zD (t : Tsk) : Prop := (1 ≤ t.1 ∧ t.1 ≤ 100) ∧ (1 ≤ t.2.1 ∧ t.2.1 ≤ 1048576) ∧ (1 ≤ t.2.2.1 ∧ t.2.2.1 ≤ t.2.1) ∧ (0 ≤ t.2.2.2.1 ∧ t.2.2.2.1 ≤ 1048576)
def lC (m : Img) (t : Tsk) : Prop := zD t ∧ Rises m.blocks.length (-1) t.blocks ∧ Rises m.safe.length (-1) t.outs ∧ EN t.code
theorem HI (n : Nat) (t : Tsk) : Says ((en n t).bind fun y1 => some (Sh.eqT (.arr 4 (.int .i64)) y1 [t.1, t.2.1, t.2.2.1, t.2.2.2.1])) (zD t) := by
 obtain ⟨a, b, c, d, t⟩ := t
 unfold en zD
 refine ⟨_, rfl, ?_⟩
 dsimp only
 rw [show ∀ x1 x2 x3 x4 y1 y2 y3 y4 : Int, Sh.eqT (.arr 4 (.int .i64)) [x1, x2, x3, x4] [y1, y2, y3, y4] = (x1 == y1 && (x2 == y2 && (x3 == y3 && (x4 == y4 && true)))) from fun _ _ _ _ _ _ _ _ => rfl]
 simp only [aj, ag, ba]
 constructor
 ·rintro ⟨h1, h2, h3, h4⟩
  repeat' split at h1
  all_goals (repeat' split at h4)
  all_goals (rw [h2] at h3; repeat' split at h2)
  all_goals (repeat' split at h3)
  all_goals omega
 ·rintro ⟨⟨h1, h2⟩, ⟨h3, h4⟩, ⟨h5, h6⟩, h7, h8⟩
  have e : (if (if 1048576 < b then 1048576 else b) > 1 then (if 1048576 < b then 1048576 else b) else 1) = b := by
   rw [if_neg (show ¬ 1048576 < b by omega)]; split <;> omega
  rw [e, if_neg (show ¬ 100 < a by omega), if_neg (show ¬ b < c by omega), if_neg (show ¬ 1048576 < d by omega)]
  refine ⟨?_, rfl, ?_, ?_⟩ <;> (split <;> omega)
theorem CF (n : Nat) (hn : 200 < n) (hn2 : n < 1000000) (m : Img) (t : Tsk) (hb : m.blocks.length + 1 < n) (ho : m.safe.length + 1 < n) : Says (fA n t m) (lC m t) := by
 obtain ⟨b, h1, h2⟩ := HI n t
 unfold fA
 unfold Option.bind at h1
 rw [show en n (t.1, t.2.1, t.2.2.1, t.2.2.2.1, t.2.2.2.2.1, t.2.2.2.2.2.1, t.2.2.2.2.2.2) = en n t from rfl]
 match hy : en n t with
 | none => rw [hy] at h1; cases h1
 | some y =>
  rw [hy] at h1
  have h1 : Sh.eqT (.arr 4 (.int .i64)) y [t.1, t.2.1, t.2.2.1, t.2.2.2.1] = b := au h1
  rw [ae, h1]
  cases b with
  | false => exact Says.no (fun h => by have := h2.2 h.1; cases this)
  | true =>
   rw [if_neg (by decide)]
   have hN : zD t := h2.1 rfl
   by_cases h0 : t.code.length = 0
   ·rw [if_pos (show (((t.2.2.2.2.2.2.length : Nat) : Int) == 0) = true from ag.2 (by have : t.code.length = t.2.2.2.2.2.2.length := rfl; omega))]
    exact Says.no (fun h => by have := h.2.2.2.1; omega)
   ·rw [if_neg (show ¬ (((t.2.2.2.2.2.2.length : Nat) : Int) == 0) = true from fun h => h0 (by have h := ag.1 h; have : t.code.length = t.2.2.2.2.2.2.length := rfl; omega))]
    refine Says.iff (p := Rises m.blocks.length (-1) t.blocks ∧ Rises m.safe.length (-1) t.outs ∧ EN t.code) ?_ ⟨fun h => ⟨hN, h⟩, fun h => h.2⟩
    exact Says.and (EM n t.blocks (m.blocks.length : Int) (by omega) (by omega) hn2) (Says.and (EM n t.outs (m.safe.length : Int) (by omega) (by omega) hn2) (Nu n hn t.code) rfl) rfl
def apart : List Int → List Int → Bool
 | _, [] => true
 | s, x :: l => !s.contains x && apart (s ++ [x]) l
def mo : List Int → List Int → List Int
 | s, [] => s
 | s, x :: l => if s.contains x = true then s else mo (s ++ [x]) l
theorem Cc : ∀ {l s : List Int}, apart s l = true → mo s l = s ++ l
 | [], s, _ => by simp [mo]
 | x :: l, s, h => by
  unfold apart at h
  rw [aj, b7] at h
  unfold mo
  rw [if_neg (by rw [h.1]; decide), Cc h.2, aN]
  rfl
theorem oM : ∀ {l k s : List Int}, apart s (l ++ k) = (apart s l && apart (s ++ l) k)
 | [], k, s => by simp [apart]
 | x :: l, k, s => by
  rw [List.cons_append, show apart s (x :: (l ++ k)) = (!s.contains x && apart (s ++ [x]) (l ++ k)) from rfl, show apart s (x :: l) = (!s.contains x && apart (s ++ [x]) l) from rfl, oM, Bool.and_assoc, aN]
  rfl
def own (s : List Int) : List Bool := (List.range 16).map fun i => s.contains ((i : Nat) : Int)
theorem Nv (s : List Int) {o : Int} (h0 : 0 ≤ o) (h1 : o < 16) : (own s).getD o.toNat false = s.contains o := by
 unfold own
 rw [ar, bC, cb (by omega)]
 simp [Int.toNat_of_nonneg h0]
theorem Nw (s : List Int) {o : Int} (h0 : 0 ≤ o) (h1 : o < 16) : (own s).set o.toNat true = own (s ++ [o]) := by
 apply List.ext_getElem
 ·simp [own]
 ·intro i h2 h3
  have hi : i < 16 := by simpa [own] using h3
  rw [List.getElem_set]
  unfold own
  simp only [List.getElem_map, List.getElem_range, List.contains_append]
  by_cases h : o.toNat = i
  ·rw [if_pos h]
   have : ((i : Nat) : Int) = o := by omega
   rw [this]
   simp
  ·rw [if_neg h]
   have : ((i : Nat) : Int) ≠ o := by omega
   simp [this]
theorem HJ (n : Nat) (m : Img) (T : List Tsk) (a k : Int) (l : List Int) (hl : l.length < n) (hn : n < 1000000) (hb : ∀ x ∈ l, 0 ≤ x ∧ x < 16) (s : List Int) : rI n (T, a, k, l, (l.length : Int), 0, m.1, m.2.1, m.2.2.1, m.2.2.2.1, m.2.2.2.2.1, m.2.2.2.2.2.1, m.2.2.2.2.2.2, own s) = some (if apart s l = true then .inr ((T, a, k, ()), ((m.1, m.2.1, m.2.2.1, m.2.2.2.1, m.2.2.2.2.1, m.2.2.2.2.2.1, m.2.2.2.2.2.2, ()), (own (mo s l), ()), ())) else .inl ((false, ()), ((m.1, m.2.1, m.2.2.1, m.2.2.2.1, m.2.2.2.2.1, m.2.2.2.2.2.1, m.2.2.2.2.2.2, ()), (own (mo s l), ()), ()))) := by
 unfold rI
 refine d6 (S := fun F => (e8 (dM q_)) (tu n F))
  (fun f x r => ∃ (i : Nat) (s : List Int), x = (T, a, k, l, (l.length : Int), (i : Int), m.1, m.2.1, m.2.2.1, m.2.2.2.1, m.2.2.2.2.1, m.2.2.2.2.2.1, m.2.2.2.2.2.2, own s) ∧ i ≤ l.length ∧ l.length < f + i ∧ r = if apart s (l.drop i) = true then .inr ((T, a, k, ()), ((m.1, m.2.1, m.2.2.1, m.2.2.2.1, m.2.2.2.2.1, m.2.2.2.2.2.1, m.2.2.2.2.2.2, ()), (own (mo s (l.drop i)), ()), ())) else .inl ((false, ()), ((m.1, m.2.1, m.2.2.1, m.2.2.2.1, m.2.2.2.2.1, m.2.2.2.2.2.1, m.2.2.2.2.2.2, ()), (own (mo s (l.drop i)), ()), ()))) (fun x r ⟨i, s, _, h1, h2, _⟩ => by omega) (fun f x F hF r => ?_) n _ _ ⟨0, s, rfl, ao _, by omega, rfl⟩
 rintro ⟨i, s, rfl, h1, h2, rfl⟩
 show tu n F T a k l (l.length : Int) (i : Int) m.1 m.2.1 m.2.2.1 m.2.2.2.1 m.2.2.2.2.1 m.2.2.2.2.2.1 m.2.2.2.2.2.2 (own s) = _
 unfold tu
 rcases am i l.length with hlt | hge
 ·have hm : l.getD i 0 ∈ l := by rw [ar, av hlt]; exact aT hlt
  obtain ⟨h3, h4⟩ := hb _ hm
  have h5 : (decide (0 ≤ l.getD i 0) && decide (l.getD i 0 < 16)) = true := by rw [af h3, af h4]; rfl
  rw [if_pos (af (by omega)), if_pos (dc hlt), ai, if_pos h5, Nv s h3 h4, dP (d := (0 : Int)) hlt, di (by omega)]
  unfold apart mo
  cases h : s.contains (l.getD i 0) with
  | true => rfl
  | false =>
   rw [if_neg (show ¬ (false = true) by decide), if_neg (show ¬ (false = true) by decide), if_pos h5, Nw s h3 h4, Bool.not_false, aS]
   exact hF _ _ ⟨i + 1, _, rfl, by omega, by omega, rfl⟩
 ·have : i = l.length := by omega
  subst this
  rw [if_neg (by simp), aU]
  rfl
def TasksOk (m : Img) : List Int → List Tsk → Prop
 | _, [] => True
 | s, t :: l => lC m t ∧ apart s t.outs = true ∧ TasksOk m (s ++ t.outs) l
theorem TasksOk.all {m : Img} : ∀ {l : List Tsk} {s : List Int}, TasksOk m s l ↔ (∀ t ∈ l, lC m t) ∧ apart s (l.flatMap Tsk.outs) = true
 | [], s => by simp [TasksOk, apart]
 | t :: l, s => by
  unfold TasksOk
  rw [TasksOk.all, cC, oM, aj, List.forall_mem_cons]
  exact ⟨fun ⟨h1, h2, h3, h4⟩ => ⟨⟨h1, h3⟩, h2, h4⟩, fun ⟨⟨h1, h3⟩, h2, h4⟩ => ⟨h1, h2, h3, h4⟩⟩
open Classical in
def zE (m : Img) : List Int → List Tsk → List Int
 | s, [] => s
 | s, t :: l => if lC m t then (if apart s t.outs = true then zE m (s ++ t.outs) l else mo s t.outs) else s
theorem HK (n : Nat) (hn : 200 < n) (hn2 : n < 1000000) (m : Img) (hbl : m.blocks.length + 1 < n) (hs : m.safe.length ≤ 16) (hT : m.tasks.length < n) :
  Says ((rJ n (m.tasks, (m.tasks.length : Int), 0, m.1, m.2.1, m.2.2.1, m.2.2.2.1, m.2.2.2.2.1, m.2.2.2.2.2.1, m.2.2.2.2.2.2, own [])).bind fun y => Sum.elim (fun z => some z.1.1) (fun z => some true) y) (TasksOk m [] m.tasks) := by
 unfold rJ
 have hit := d6 (S := fun F => (e8 (C_ q_)) (tw n F))
  (fun f x r => ∃ (i : Nat) (s : List Int) (c : Bool), x = (m.tasks, (m.tasks.length : Int), (i : Int), m.1, m.2.1, m.2.2.1, m.2.2.2.1, m.2.2.2.2.1, m.2.2.2.2.2.1, m.2.2.2.2.2.2, own s) ∧ i ≤ m.tasks.length ∧ m.tasks.length < f + i ∧ (c = true ↔ TasksOk m s (m.tasks.drop i)) ∧ r = if c = true then .inr ((), ((m.1, m.2.1, m.2.2.1, m.2.2.2.1, m.2.2.2.2.1, m.2.2.2.2.2.1, m.2.2.2.2.2.2, ()), (own (zE m s (m.tasks.drop i)), ()), ())) else .inl ((false, ()), ((m.1, m.2.1, m.2.2.1, m.2.2.2.1, m.2.2.2.2.1, m.2.2.2.2.2.1, m.2.2.2.2.2.2, ()), (own (zE m s (m.tasks.drop i)), ()), ()))) (fun x r ⟨i, s, c, _, h1, h2, _⟩ => by omega) (fun f x F hF r => ?_) n (m.tasks, (m.tasks.length : Int), 0, m.1, m.2.1, m.2.2.1, m.2.2.2.1, m.2.2.2.2.1, m.2.2.2.2.2.1, m.2.2.2.2.2.2, own [])
 ·have := Classical.propDecidable (TasksOk m [] m.tasks)
  refine ⟨decide (TasksOk m [] m.tasks), ?_, bY⟩
  rw [hit _ ⟨0, [], decide (TasksOk m [] m.tasks), rfl, ao _, by omega, bY, rfl⟩, ae]
  cases decide (TasksOk m [] m.tasks) <;> rfl
 ·rintro ⟨i, s, c, rfl, h1, h2, hc, rfl⟩
  show tw n F m.tasks (m.tasks.length : Int) (i : Int) m.1 m.2.1 m.2.2.1 m.2.2.2.1 m.2.2.2.2.1 m.2.2.2.2.2.1 m.2.2.2.2.2.2 (own s) = _
  unfold tw
  rcases am i m.tasks.length with hlt | hge
  ·rw [dP (d := ((0 : Int), (0 : Int), (0 : Int), (0 : Int), ([] : List Int), ([] : List Int), ([] : List cY))) hlt] at hc ⊢
   rw [if_pos (af (by omega)), if_pos (dc hlt), ai]
   generalize m.tasks.getD i (0, 0, 0, 0, [], [], []) = t at hc ⊢
   obtain ⟨b, e1, e2⟩ := CF n hn hn2 m t hbl (by omega)
   rw [show fA n (t.1, t.2.1, t.2.2.1, t.2.2.2.1, t.2.2.2.2.1, t.2.2.2.2.2.1, t.2.2.2.2.2.2) (m.1, m.2.1, m.2.2.1, m.2.2.2.1, m.2.2.2.2.1, m.2.2.2.2.2.1, m.2.2.2.2.2.2) = some b from e1, ae]
   cases b with
   | false =>
    have ht : ¬ lC m t := fun h => by have := e2.2 h; cases this
    have hc0 : c = false := by cases c with
     | false => rfl
     | true => exact absurd (hc.1 rfl).1 ht
    rw [hc0]
    unfold zE
    rw [if_neg ht]
    rfl
   | true =>
    have ht : lC m t := e2.1 rfl
    have hr := ht.2.2.1
    have hlen := hr.len (by omega)
    have hmem := hr.mem
    rw [if_neg (by decide), HJ n m m.tasks _ _ t.outs (by omega) hn2 (fun x hx => by have := hmem x hx; omega) s, ae]
    unfold zE
    rw [if_pos ht]
    cases ha : apart s t.outs with
    | false =>
     have hc0 : c = false := by cases c with
      | false => rfl
      | true => have := (hc.1 rfl).2.1; rw [ha] at this; cases this
     rw [hc0]
     rfl
    | true =>
     rw [if_pos rfl, Cc ha, if_pos rfl]
     dsimp only [Sum.elim_inr]
     rw [di (by omega)]
     exact hF _ _ ⟨i + 1, s ++ t.outs, c, rfl, by omega, by omega, hc.trans ⟨fun h => h.2.2, fun h => ⟨ht, ha, h⟩⟩, rfl⟩
  ·have : i = m.tasks.length := by omega
   subst this
   rw [aU] at hc ⊢
   rw [if_neg (by simp), if_pos (hc.2 trivial)]
   rfl
def vy (m : Img) : Prop := (0 ≤ m.1 ∧ m.1 ≤ 100) ∧ (1 ≤ m.2.1 ∧ m.2.1 ≤ 100) ∧ (1 ≤ m.2.2.1 ∧ m.2.2.1 ≤ 100) ∧ (0 ≤ m.2.2.2.1 ∧ m.2.2.2.1 ≤ 16) ∧ m.safe.length ≤ 16 ∧ m.blocks.length ≤ 8 ∧ (1 ≤ m.tasks.length ∧ m.tasks.length ≤ 8)
def l7 (l : List (List Int)) : Prop := ∀ b ∈ l, 1 ≤ b.length ∧ b.length ≤ 8
def RightP (m : Img) : Prop := vy m ∧ l7 m.blocks ∧ TasksOk m [] m.tasks
theorem HL (n : Nat) (hn2 : n < 1000000) (m : Img) (hT : m.blocks.length < n) (F : Option Bool) :
  ∃ c, (c = true ↔ l7 m.blocks) ∧ rH n (m.blocks, (m.blocks.length : Int), 0, m.1, m.2.1, m.2.2.1, m.2.2.2.1, m.2.2.2.2.1, m.2.2.2.2.2.1, m.2.2.2.2.2.2) = some (if c = true then .inr ((), ((m.1, m.2.1, m.2.2.1, m.2.2.2.1, m.2.2.2.2.1, m.2.2.2.2.2.1, m.2.2.2.2.2.2, ()), ())) else .inl ((false, ()), ((m.1, m.2.1, m.2.2.1, m.2.2.2.1, m.2.2.2.2.1, m.2.2.2.2.2.1, m.2.2.2.2.2.2, ()), ()))) := by
 unfold rH
 have := Classical.propDecidable (l7 m.blocks)
 refine ⟨decide (l7 m.blocks), bY, ?_⟩
 refine d6 (S := fun F => (e8 q_) (tr n F))
  (fun f x r => ∃ (i : Nat) (c : Bool), x = (m.blocks, (m.blocks.length : Int), (i : Int), m.1, m.2.1, m.2.2.1, m.2.2.2.1, m.2.2.2.2.1, m.2.2.2.2.2.1, m.2.2.2.2.2.2) ∧ i ≤ m.blocks.length ∧ m.blocks.length < f + i ∧ (c = true ↔ l7 (m.blocks.drop i)) ∧ r = if c = true then .inr ((), ((m.1, m.2.1, m.2.2.1, m.2.2.2.1, m.2.2.2.2.1, m.2.2.2.2.2.1, m.2.2.2.2.2.2, ()), ())) else .inl ((false, ()), ((m.1, m.2.1, m.2.2.1, m.2.2.2.1, m.2.2.2.2.1, m.2.2.2.2.2.1, m.2.2.2.2.2.2, ()), ()))) (fun x r ⟨i, c, _, h1, h2, _⟩ => by omega) (fun f x F hF r => ?_) n _ _ ⟨0, decide (l7 m.blocks), rfl, ao _, by omega, bY, rfl⟩
 rintro ⟨i, c, rfl, h1, h2, hc, rfl⟩
 show tr n F m.blocks (m.blocks.length : Int) (i : Int) m.1 m.2.1 m.2.2.1 m.2.2.2.1 m.2.2.2.2.1 m.2.2.2.2.2.1 m.2.2.2.2.2.2 = _
 unfold tr
 rcases am i m.blocks.length with hlt | hge
 ·rw [dP (d := ([] : List Int)) hlt] at hc
  rw [if_pos (af (by omega)), if_pos (dc hlt), ai]
  generalize m.blocks.getD i [] = b at hc ⊢
  have hc : c = true ↔ (1 ≤ b.length ∧ b.length ≤ 8) ∧ l7 (m.blocks.drop (i + 1)) := hc.trans List.forall_mem_cons
  have hno : ∀ (h : ¬ (1 ≤ b.length ∧ b.length ≤ 8)), c = false := fun h => by
   cases c with
   | false => rfl
   | true => exact absurd (hc.1 rfl).1 h
  by_cases g1 : b.length = 0
  ·rw [if_pos (ag.2 (by omega)), hno (by omega)]; rfl
  rw [if_neg (fun h => g1 (by have := ag.1 h; omega))]
  by_cases g2 : b.length ≤ 8
  ·rw [if_neg (by simp; omega), di (by omega)]
   exact hF _ _ ⟨i + 1, c, rfl, by omega, by omega, hc.trans ⟨fun h => h.2, fun h => ⟨by omega, h⟩⟩, rfl⟩
  ·rw [if_pos (af (by omega)), hno (by omega)]; rfl
 ·have : i = m.blocks.length := by omega
  subst this
  rw [aU] at hc
  rw [if_neg (by simp), if_pos (hc.2 (fun b hb => by cases hb))]
theorem Qy {a b c d e f g : Bool} {A B C D E F G : Prop} (ha : a = true ↔ A) (hb : b = true ↔ B) (hc : c = true ↔ C) (hd : d = true ↔ D) (he : e = true ↔ E) (hf : f = true ↔ F) (hg : g = true ↔ G) : (a && (b && (c && (d && (e && (f && g)))))) = true ↔ A ∧ B ∧ C ∧ D ∧ E ∧ F ∧ G := by
 simp only [aj, ha, hb, hc, hd, he, hf, hg]
theorem uV (n : Nat) (hn : 200 < n) (hn2 : n < 1000000) (m : Img) : Says (la n m) (RightP m) := by
 unfold la
 have hN : ∀ {b : Bool}, (b = true ↔ vy m) → ∀ {o : Option Bool}, (vy m → Says o (RightP m)) → Says (if (!b) = true then some false else o) (RightP m) := fun {b} hb {o} ho => by
  cases b with
  | false => exact Says.no (fun h => by have := hb.2 h.1; cases this)
  | true => exact ho (hb.1 rfl)
 refine hN ?_ ?_
 ·refine Qy ?_ ?_ ?_ ?_ ?_ ?_ ?_
  all_goals (rw [ag])
  ·generalize m.1 = a; constructor <;> intro h <;> (repeat' split at *) <;> omega
  ·generalize m.2.1 = a; constructor <;> intro h <;> (repeat' split at *) <;> omega
  ·generalize m.2.2.1 = a; constructor <;> intro h <;> (repeat' split at *) <;> omega
  ·generalize m.2.2.2.1 = a; constructor <;> intro h <;> (repeat' split at *) <;> omega
  ·show (m.safe.length : Int) = _ ↔ _
   generalize m.safe.length = a; constructor <;> intro h <;> (repeat' split at *) <;> omega
  ·show (m.blocks.length : Int) = _ ↔ _
   generalize m.blocks.length = a; constructor <;> intro h <;> (repeat' split at *) <;> omega
  ·show (m.tasks.length : Int) = _ ↔ _
   generalize m.tasks.length = a; constructor <;> intro h <;> (repeat' split at *) <;> omega
 ·intro hI
  obtain ⟨_, _, _, _, h5, h6, h7⟩ := id hI
  obtain ⟨c, hc, e⟩ := HL n hn2 m (by omega) none
  rw [e, ae]
  cases c with
  | false => exact Says.no (fun h => by have := hc.2 h.2.1; cases this)
  | true => exact (HK n hn hn2 m (by omega) h5 (by omega)).iff ⟨fun h => ⟨hI, hc.1 rfl, h⟩, fun h => h.2.2⟩
def EO (m : Img) : Prop := m.safe.length + m.blocks.length + m.tasks.length ≤ 80 ∧ ∀ t ∈ m.tasks, t.code.length ≤ 4019
theorem Cd (l : List cY) : ∀ (r i p : Nat), i ≤ p → p < i + r → dd l p = 23 → dJ l p ∈ gu l r i
 | 0, i, p, h1, h2, h3 => by omega
 | r + 1, i, p, h1, h2, h3 => by
  rw [show gu l (r + 1) i = j7 l i ++ gu l r (i + 1) from rfl, az]
  by_cases h : i = p
  ·subst h
   left
   unfold j7
   rw [if_pos h3]
   exact aB
  ·exact .inr (Cd l r (i + 1) p (by omega) (by omega) h3)
theorem HM {l : List cY} (h : ec l = 0) {i : Nat} (hi : i < l.length) (ho : dd l i = 17 ∨ dd l i = 18) : dJ l i ∈ fk l := by
 have hb := xU h hi
 unfold ji at hb
 rw [if_neg (by omega), if_pos ho, Bool.not_eq_false'] at hb
 unfold uP at hb
 obtain ⟨k, h1, h2⟩ := anyB_iff.1 hb
 simp only [aj, ag] at h2
 unfold fk
 rw [if_pos h, ← h2.2.2]
 exact Cd l _ _ k (ao _) (by omega) h2.2.1
theorem CG {m : Img} {t : Tsk} (hl : ec t.code = 0) (hb : fk t.code = t.blocks) (ht : lC m t) : ∀ i ∈ t.code, i.1 = 17 ∨ i.1 = 18 → 0 ≤ i.2.1 ∧ i.2.1 < (m.blocks.length : Int) := by
 intro x hx ho
 obtain ⟨i, hi, e⟩ := bO hx
 have e : t.code.getD i (0, 0, 0) = x := by rw [AU hi, e]
 have h := HM hl hi (by unfold dd; rw [e]; exact ho)
 rw [hb] at h
 have := ht.2.1.mem _ h
 unfold dJ at this
 rw [e] at this
 omega
open Classical in
def fg (n : Nat) (m : Img) (i : Int) : Int :=
 if RightP m then
  if i < 0 ∨ i ≥ (m.tasks.length : Int) then 14
  else
   let t := m.tasks.getD i.toNat (0, 0, 0, 0, [], [], [])
   if (eG bM n t.code).2 ≠ 0 then (eG bM n t.code).2 else if fk t.code = t.blocks then (if t.code.all (jt m t) = true then 0 else 12) else 11
 else 12
theorem RightP.task {m : Img} (h : RightP m) {i : Int} (h0 : 0 ≤ i) (h1 : i < (m.tasks.length : Int)) : lC m (m.tasks.getD i.toNat (0, 0, 0, 0, [], [], [])) ∧ m.tasks.getD i.toNat (0, 0, 0, 0, [], [], []) ∈ m.tasks := by
 have hlt : i.toNat < m.tasks.length := by omega
 have hm : m.tasks.getD i.toNat ((0 : Int), (0 : Int), (0 : Int), (0 : Int), ([] : List Int), ([] : List Int), ([] : List cY)) ∈ m.tasks := by rw [ar, av hlt]; exact aT hlt
 exact ⟨(TasksOk.all.1 h.2.2).1 _ hm, hm⟩
theorem AX (n : Nat) (hn : 200 < n) (hn2 : n < 1000000) (m : Img) (i : Int) : fc n m i = some (fg n m i) := by
 obtain ⟨b, e1, e2⟩ := uV n hn hn2 m
 unfold fc
 rw [show la n (m.1, m.2.1, m.2.2.1, m.2.2.2.1, m.2.2.2.2.1, m.2.2.2.2.2.1, m.2.2.2.2.2.2) = some b from e1, ae]
 unfold fg
 cases b with
 | false =>
  rw [if_pos (show (!false) = true from rfl), if_neg (show ¬ RightP m from fun h => by have := e2.2 h; cases this)]
 | true =>
  have hR := e2.1 rfl
  rw [if_pos hR, if_neg (by decide)]
  by_cases h0 : i < 0
  ·rw [if_pos (af h0), if_pos (.inl h0)]
  rw [if_neg (by simpa using h0)]
  by_cases h1 : i ≥ (m.tasks.length : Int)
  ·rw [if_pos (show decide (i ≥ (m.2.2.2.2.2.2.length : Int)) = true from af h1), if_pos (.inr h1)]
  rw [if_neg (show ¬ decide (i ≥ (m.2.2.2.2.2.2.length : Int)) = true from fun h => h1 (aC h)), if_neg (show ¬ (i < 0 ∨ i ≥ (m.tasks.length : Int)) by omega), if_pos (show (decide (0 ≤ i) && decide (i < (m.2.2.2.2.2.2.length : Int))) = true by rw [af (by omega), af (show i < (m.2.2.2.2.2.2.length : Int) from by have : (m.tasks.length : Int) = (m.2.2.2.2.2.2.length : Int) := rfl; omega)]; rfl)]
  obtain ⟨ht, hm⟩ := hR.task (i := i) (by omega) (by omega)
  rw [show m.2.2.2.2.2.2.getD i.toNat (0, 0, 0, 0, [], [], []) = m.tasks.getD i.toNat (0, 0, 0, 0, [], [], []) from rfl]
  generalize m.tasks.getD i.toNat (0, 0, 0, 0, [], [], []) = t at ht ⊢
  have hc : t.code.length < n := by have := ht.2.2.2.2.1; omega
  have hol : t.outs.length < n := by have := ht.2.2.1.len (by omega); have := hR.1.2.2.2.2.1; omega
  have hS : gF n ((t.1, t.2.1, t.2.2.1, t.2.2.2.1, t.2.2.2.2.1, t.2.2.2.2.2.1, t.2.2.2.2.2.2), (m.1, m.2.1, m.2.2.1, m.2.2.2.1, m.2.2.2.2.1, m.2.2.2.2.2.1, m.2.2.2.2.2.2)) = some (eG bM n t.code).2 := by
   unfold gF
   rw [show fC n (((t.1, t.2.1, t.2.2.1, t.2.2.2.1, t.2.2.2.2.1, t.2.2.2.2.2.1, t.2.2.2.2.2.2), (m.1, m.2.1, m.2.2.1, m.2.2.2.1, m.2.2.2.2.1, m.2.2.2.2.2.1, m.2.2.2.2.2.2)) : Tsk × Img).1.2.2.2.2.2.2 = some (eG bM n t.code) from xT n t.code hc (by omega) hn2]
   rfl
  rw [hS, ae]
  dsimp only
  by_cases hz : (eG bM n t.code).2 ≠ 0
  ·rw [if_pos (ak.2 hz), if_pos hz]
  rw [if_neg (fun h => hz (ak.1 h)), if_neg hz]
  have hlk := (rU (Decidable.not_not.1 hz)).1
  have hB : tQ n ((t.1, t.2.1, t.2.2.1, t.2.2.2.1, t.2.2.2.2.1, t.2.2.2.2.2.1, t.2.2.2.2.2.2), (m.1, m.2.1, m.2.2.1, m.2.2.2.1, m.2.2.2.2.1, m.2.2.2.2.2.1, m.2.2.2.2.2.2)) = some (if fk t.code = t.blocks then 0 else 11) := by
   have := Kh n t m hc (by omega) hn2
   rw [if_neg (fun h => h hlk)] at this
   exact this
  rw [hB, ae]
  by_cases hb : fk t.code = t.blocks
  ·rw [if_pos hb, if_pos hb, if_neg (by decide)]
   have hN : yV n ((t.1, t.2.1, t.2.2.1, t.2.2.2.1, t.2.2.2.2.1, t.2.2.2.2.2.1, t.2.2.2.2.2.2), (m.1, m.2.1, m.2.2.1, m.2.2.2.1, m.2.2.2.2.1, m.2.2.2.2.2.1, m.2.2.2.2.2.2)) = _ := Ms n t m hc hol hn2 (CG hlk hb ht)
   rw [hN, ae]
   cases t.code.all (jt m t) <;> rfl
  ·rw [if_neg hb, if_neg hb]
   rfl
def eJ (k : Nat) : Int := if (100 : Int) < (k : Int) then 100 else (k : Int)
def eu (k : Nat) : Int := if (10000 : Int) < (k : Int) then 10000 else (k : Int)
theorem kG (k : Nat) : 0 ≤ eJ k ∧ eJ k ≤ 100 := by unfold eJ; split <;> omega
theorem pW (k : Nat) : 0 ≤ eu k ∧ eu k ≤ 10000 := by unfold eu; split <;> omega
def jT (a : Int) (l : List (List Int)) : Int := l.foldl (fun a b => a + eJ b.length) a
def mU (a : Int) (l : List Tsk) : Int := l.foldl (fun a t => a + eJ t.blocks.length + eJ t.outs.length + (eu t.code.length).tdiv 20) a
theorem Ce : ∀ {l : List (List Int)} {a : Int}, a ≤ jT a l ∧ jT a l ≤ a + 100 * l.length
 | [], a => by simp [jT]
 | b :: l, a => by
  have := Ce (l := l) (a := a + eJ b.length)
  have := kG b.length
  rw [show jT a (b :: l) = jT (a + eJ b.length) l from rfl, aF]
  omega
theorem Cf : ∀ {l : List Tsk} {a : Int}, a ≤ mU a l ∧ ∀ t ∈ l, a + (eu t.code.length).tdiv 20 ≤ mU a l
 | [], a => by simp [mU]
 | t :: l, a => by
  obtain ⟨h1, h2⟩ := Cf (l := l) (a := a + eJ t.blocks.length + eJ t.outs.length + (eu t.code.length).tdiv 20)
  have h3 := kG t.blocks.length
  have h4 := kG t.outs.length
  have h5 := pW t.code.length
  have h6 : (eu t.code.length).tdiv 20 = eu t.code.length / 20 := cd h5.1
  rw [show mU a (t :: l) = mU (a + eJ t.blocks.length + eJ t.outs.length + (eu t.code.length).tdiv 20) l from rfl, List.forall_mem_cons]
  refine ⟨by omega, by omega, fun u hu => ?_⟩
  have := h2 u hu
  omega
theorem Kj (n : Nat) (hn : n < 1000000) (m : Img) (hT : m.blocks.length < n) (a : Int) (ha : 0 ≤ a ∧ a ≤ 80) : rE n (a, 0, m.1, m.2.1, m.2.2.1, m.2.2.2.1, m.2.2.2.2.1, m.2.2.2.2.2.1, m.2.2.2.2.2.2) = some (jT a m.blocks, m.1, m.2.1, m.2.2.1, m.2.2.2.1, m.2.2.2.2.1, m.2.2.2.2.2.1, m.2.2.2.2.2.2) := by
 unfold rE
 refine d6 (S := fun F => (dM (dm (C_ q_))) (ti n F))
  (fun f x r => ∃ (i : Nat) (b : Int), x = (b, (i : Int), m.1, m.2.1, m.2.2.1, m.2.2.2.1, m.2.2.2.2.1, m.2.2.2.2.2.1, m.2.2.2.2.2.2) ∧ i ≤ m.blocks.length ∧ m.blocks.length < f + i ∧ (0 ≤ b ∧ b ≤ 80 + 100 * i) ∧ r = (jT b (m.blocks.drop i), m.1, m.2.1, m.2.2.1, m.2.2.2.1, m.2.2.2.2.1, m.2.2.2.2.2.1, m.2.2.2.2.2.2)) (fun x r ⟨i, b, _, h1, h2, _⟩ => by omega) (fun f x F hF r => ?_) n _ _ ⟨0, a, rfl, ao _, by omega, by omega, rfl⟩
 rintro ⟨i, b, rfl, h1, h2, hb, rfl⟩
 show ti n F b (i : Int) m.1 m.2.1 m.2.2.1 m.2.2.2.1 m.2.2.2.2.1 m.2.2.2.2.2.1 m.2.2.2.2.2.2 = _
 unfold ti
 rcases am i m.blocks.length with hlt | hge
 ·rw [if_pos (show decide ((i : Int) < (m.2.2.2.2.2.1.length : Int)) = true from af (by exact_mod_cast hlt)), if_pos (show (decide (0 ≤ (i : Int)) && decide ((i : Int) < (m.2.2.2.2.2.1.length : Int))) = true from dc hlt), ai, di (by omega), dP (d := ([] : List Int)) hlt]
  have hc := kG (m.blocks.getD i []).length
  show F (wrap .i64 (b + eJ (m.blocks.getD i []).length), _) = _
  rw [dA (show -9223372036854775808 ≤ b + eJ (m.blocks.getD i []).length by omega) (show b + eJ (m.blocks.getD i []).length ≤ 9223372036854775807 by omega)]
  exact hF _ _ ⟨i + 1, _, rfl, by omega, by omega, by omega, rfl⟩
 ·have : i = m.blocks.length := by omega
  subst this
  rw [if_neg (by simp), aU]
  rfl
theorem Kk (n : Nat) (hn : n < 1000000) (m : Img) (hT : m.tasks.length < n) (hB : m.blocks.length < n) (a : Int) (ha : 0 ≤ a ∧ a ≤ 80 + 100 * m.blocks.length) : oh n (a, 0, m.1, m.2.1, m.2.2.1, m.2.2.2.1, m.2.2.2.2.1, m.2.2.2.2.2.1, m.2.2.2.2.2.2) = some (mU a m.tasks, m.1, m.2.1, m.2.2.1, m.2.2.2.1, m.2.2.2.2.1, m.2.2.2.2.2.1, m.2.2.2.2.2.2) := by
 unfold oh
 refine d6 (S := fun F => (dM (dm (C_ q_))) (tj n F))
  (fun f x r => ∃ (i : Nat) (b : Int), x = (b, (i : Int), m.1, m.2.1, m.2.2.1, m.2.2.2.1, m.2.2.2.2.1, m.2.2.2.2.2.1, m.2.2.2.2.2.2) ∧ i ≤ m.tasks.length ∧ m.tasks.length < f + i ∧ (0 ≤ b ∧ b ≤ 80 + 100 * m.blocks.length + 700 * i) ∧ r = (mU b (m.tasks.drop i), m.1, m.2.1, m.2.2.1, m.2.2.2.1, m.2.2.2.2.1, m.2.2.2.2.2.1, m.2.2.2.2.2.2)) (fun x r ⟨i, b, _, h1, h2, _⟩ => by omega) (fun f x F hF r => ?_) n _ _ ⟨0, a, rfl, ao _, by omega, by omega, rfl⟩
 rintro ⟨i, b, rfl, h1, h2, hb, rfl⟩
 show tj n F b (i : Int) m.1 m.2.1 m.2.2.1 m.2.2.2.1 m.2.2.2.2.1 m.2.2.2.2.2.1 m.2.2.2.2.2.2 = _
 unfold tj
 rcases am i m.tasks.length with hlt | hge
 ·rw [if_pos (show decide ((i : Int) < (m.2.2.2.2.2.2.length : Int)) = true from af (by exact_mod_cast hlt)), if_pos (show (decide (0 ≤ (i : Int)) && decide ((i : Int) < (m.2.2.2.2.2.2.length : Int))) = true from dc hlt), ai, di (by omega), dP (d := ((0 : Int), (0 : Int), (0 : Int), (0 : Int), ([] : List Int), ([] : List Int), ([] : List cY))) hlt]
  rw [show m.2.2.2.2.2.2.getD i (0, 0, 0, 0, [], [], []) = m.tasks.getD i (0, 0, 0, 0, [], [], []) from rfl]
  generalize m.tasks.getD i (0, 0, 0, 0, [], [], []) = t
  have h3 := kG t.blocks.length
  have h4 := kG t.outs.length
  have h5 := pW t.code.length
  have h6 : (eu t.code.length).tdiv 20 = eu t.code.length / 20 := cd h5.1
  show F (wrap .i64 (wrap .i64 (wrap .i64 (b + eJ t.blocks.length) + eJ t.outs.length) + wrap .i64 ((eu t.code.length).tdiv 20)), _) = _
  rw [dA (e := (eu t.code.length).tdiv 20) (by omega) (by omega), dA (e := b + eJ t.blocks.length) (by omega) (by omega), dA (e := b + eJ t.blocks.length + eJ t.outs.length) (by omega) (by omega), dA (e := b + eJ t.blocks.length + eJ t.outs.length + (eu t.code.length).tdiv 20) (by omega) (by omega)]
  exact hF _ _ ⟨i + 1, _, rfl, by omega, by omega, by omega, rfl⟩
 ·have : i = m.tasks.length := by omega
  subst this
  rw [if_neg (by simp), aU]
  rfl
theorem Mt (n : Nat) (hn0 : 200 < n) (hn : n < 1000000) (m : Img) (hs : m.safe.length < 9000000000000000 ∧ m.blocks.length < 9000000000000000 ∧ m.tasks.length < 9000000000000000) : nC n m = some 0 ∨ (nC n m = some 1 ∧ EO m) := by
 unfold nC
 have e : wrap .i64 (wrap .i64 ((m.safe.length : Int) + (m.blocks.length : Int)) + (m.tasks.length : Int)) = (m.safe.length : Int) + (m.blocks.length : Int) + (m.tasks.length : Int) := by
  rw [dA (e := (m.safe.length : Int) + (m.blocks.length : Int)) (by omega) (by omega), dA (by omega) (by omega)]
 rw [show wrap .i64 (wrap .i64 ((m.2.2.2.2.1.length : Int) + (m.2.2.2.2.2.1.length : Int)) + (m.2.2.2.2.2.2.length : Int)) = (m.safe.length : Int) + (m.blocks.length : Int) + (m.tasks.length : Int) from e]
 by_cases h : (m.safe.length : Int) + (m.blocks.length : Int) + (m.tasks.length : Int) > 80
 ·rw [if_pos (af h)]
  exact .inl rfl
 rw [if_neg (by simpa using h), Kj n hn m (by omega) _ (by omega), ae]
 obtain ⟨hB1, hB2⟩ := Ce (l := m.blocks) (a := (m.safe.length : Int) + (m.blocks.length : Int) + (m.tasks.length : Int))
 rw [show oh n _ = _ from Kk n hn m (by omega) (by omega) (jT ((m.safe.length : Int) + (m.blocks.length : Int) + (m.tasks.length : Int)) m.blocks) (by omega), ae]
 dsimp only
 obtain ⟨hT1, hT2⟩ := Cf (l := m.tasks) (a := jT ((m.safe.length : Int) + (m.blocks.length : Int) + (m.tasks.length : Int)) m.blocks)
 split
 ·exact .inl rfl
 ·rename_i h2
  have h2 : mU (jT ((m.safe.length : Int) + (m.blocks.length : Int) + (m.tasks.length : Int)) m.blocks) m.tasks ≤ 200 := by simpa using h2
  refine .inr ⟨rfl, by omega, fun t ht => ?_⟩
  have h3 := hT2 t ht
  have h5 := pW t.code.length
  have h6 : (eu t.code.length).tdiv 20 = eu t.code.length / 20 := cd h5.1
  have h7 : eu t.code.length ≤ 4019 := by omega
  unfold eu at h7
  split at h7 <;> omega
abbrev dk (m : Img) (i : Int) : Tsk := m.tasks.getD i.toNat (0, 0, 0, 0, [], [], [])
theorem nI {n : Nat} {m : Img} {i : Int} (h : fg n m i = 0) : RightP m ∧ (0 ≤ i ∧ i < (m.tasks.length : Int)) ∧ (eG bM n (dk m i).code).2 = 0 ∧ fk (dk m i).code = (dk m i).blocks ∧ (dk m i).code.all (jt m (dk m i)) = true := by
 unfold fg at h
 split at h
 ·rename_i hR
  split at h
  ·cases h
  ·dsimp only at h
   split at h
   ·rename_i h1
    exact absurd h h1
   ·rename_i h1
    split at h
    ·rename_i h2
     split at h
     ·rename_i h3
      exact ⟨hR, by omega, Decidable.not_not.1 h1, h2, h3⟩
     ·cases h
    ·cases h
 ·cases h
def gy (n : Nat) (m : Img) (i : Int) : Int × Int :=
 if fg n m i ≠ 0 then (0, fg n m i) else ((eG bM n (dk m i).code).1 + 2 * m.1 + m.2.1 + m.2.2.1, 0)
def iL (n : Nat) (m : Img) (i : Int) : List Int × Int :=
 if fg n m i ≠ 0 then ([], fg n m i) else ((j9 n (dk m i).code).1.map Prod.snd, 0)
theorem qQ {i : Int} {k : Nat} (h0 : 0 ≤ i) (h1 : i < (k : Int)) : (decide (0 ≤ i) && decide (i < (k : Int))) = true := by rw [af h0, af h1]; rfl
theorem Mu (n : Nat) (hn : 200 < n) (hn2 : n < 1000000) (m : Img) (i : Int) : iC n m i = some (gy n m i) := by
 unfold iC gy
 rw [show fc n (m.1, m.2.1, m.2.2.1, m.2.2.2.1, m.2.2.2.2.1, m.2.2.2.2.2.1, m.2.2.2.2.2.2) i = _ from AX n hn hn2 m i, ae]
 by_cases h : fg n m i ≠ 0
 ·rw [if_pos (ak.2 h), if_pos h]
 rw [if_neg (fun k => h (ak.1 k)), if_neg h]
 obtain ⟨hR, ⟨h0, h1⟩, h2, h3, h4⟩ := nI (Decidable.not_not.1 h)
 obtain ⟨ht, hm⟩ := hR.task h0 h1
 have hc : (dk m i).code.length < n := Nat.lt_of_le_of_lt ht.2.2.2.2.1 (by omega)
 rw [if_pos (show (decide (0 ≤ i) && decide (i < (m.2.2.2.2.2.2.length : Int))) = true from qQ h0 h1)]
 rw [show fC n (m.2.2.2.2.2.2.getD i.toNat (0, 0, 0, 0, [], [], [])).2.2.2.2.2.2 = _ from xT n (dk m i).code hc (by omega) hn2, ae]
 try dsimp only
 obtain ⟨_, a1, a2, _, a3⟩ := rW n _ h2
 obtain ⟨n1, n2, n3, _⟩ := hR.1
 rw [h2, dA (e := m.1 + m.2.1) (by omega) (by omega), dA (e := m.1 + m.2.1 + (eG bM n (dk m i).code).1) (by omega) (by omega), dA (e := m.1 + m.2.1 + (eG bM n (dk m i).code).1 + m.2.2.1) (by omega) (by omega), dA (by omega) (by omega)]
 congr 2
 omega
theorem Mv (n : Nat) (hn : n < 1000000) (e : Int) (s : List (Int × Int)) (hs : s.length < n) : gG n (e, [], s, (s.length : Int), 0) = some (e, s.map Prod.snd) := by
 unfold gG
 refine d6 (S := fun F => (dm (C_ q_)) (gm n F))
  (fun f x r => ∃ i : Nat, x = (e, (s.take i).map Prod.snd, s, (s.length : Int), (i : Int)) ∧ i ≤ s.length ∧ s.length < f + i ∧ r = (e, s.map Prod.snd)) (fun x r ⟨i, _, h1, h2, _⟩ => by omega) (fun f x F hF r => ?_) n _ _ ⟨0, rfl, ao _, by omega, rfl⟩
 rintro ⟨i, rfl, h1, h2, rfl⟩
 show gm n F e ((s.take i).map Prod.snd) s (s.length : Int) (i : Int) = _
 unfold gm
 rcases am i s.length with hlt | hge
 ·have hl : ((s.take i).map Prod.snd).length = i := by rw [bj, cm]; omega
  rw [if_pos (af (by omega)), if_pos (dc hlt), if_pos (by rw [af (by omega), af (by omega)]; rfl), ai, di (by omega)]
  refine hF _ _ ⟨i + 1, ?_, by omega, by omega, rfl⟩
  have e : (s.take i).map Prod.snd ++ [(s.getD i (0, 0)).2] = (s.take (i + 1)).map Prod.snd := by
   rw [List.take_add_one, ar, av hlt, ct]
   rfl
  rw [← e]
 ·have : i = s.length := by omega
  subst this
  rw [if_neg (by simp), List.take_length]
theorem Kl {n : Nat} {l : List cY} (h : (eG bM n l).2 = 0) : (j9 n l).2 = 0 := by
 unfold j9
 rw [if_neg (fun k => k h)]
theorem Cg : ∀ {l : List cY} {m : List Int} {n : Nat} (r i : Nat), (gx l m n r i).length ≤ r
 | l, m, n, 0, i => by simp [gx]
 | l, m, n, r + 1, i => by
  have := Cg (l := l) (m := m) (n := n) r (i + 1)
  unfold gx
  rw [aL]
  split <;> simp <;> omega
theorem HN (n : Nat) (l : List cY) : (j9 n l).1.length ≤ l.length := by
 unfold j9
 split
 ·simp
 ·exact Cg _ _
theorem Km (n : Nat) (hn : 200 < n) (hn2 : n < 1000000) (m : Img) (i : Int) : gT n m i = some (iL n m i) := by
 unfold gT iL
 rw [show fc n (m.1, m.2.1, m.2.2.1, m.2.2.2.1, m.2.2.2.2.1, m.2.2.2.2.2.1, m.2.2.2.2.2.2) i = _ from AX n hn hn2 m i, ae]
 by_cases h : fg n m i ≠ 0
 ·rw [if_pos (ak.2 h), if_pos h]
 rw [if_neg (fun k => h (ak.1 k)), if_neg h]
 obtain ⟨hR, ⟨h0, h1⟩, h2, h3, h4⟩ := nI (Decidable.not_not.1 h)
 obtain ⟨ht, hm⟩ := hR.task h0 h1
 have hc : (dk m i).code.length < n := Nat.lt_of_le_of_lt ht.2.2.2.2.1 (by omega)
 have hsl := HN n (dk m i).code
 rw [if_pos (show (decide (0 ≤ i) && decide (i < (m.2.2.2.2.2.2.length : Int))) = true from qQ h0 h1)]
 rw [show gj n (m.2.2.2.2.2.2.getD i.toNat (0, 0, 0, 0, [], [], [])).2.2.2.2.2.2 = _ from Fu n (dk m i).code hc (by omega) hn2, ae, Mv n hn2 _ _ (by omega), ae, Kl h2]
def ju (e : Nat → Int) : Nat → Nat → Option (Int × Int)
 | 0, i => none
 | r + 1, i => if e i ≠ 0 then some ((i : Int), e i) else ju e r (i + 1)
open Classical in
def ei (n : Nat) (m : Img) : Int × Int :=
 if RightP m then (ju (fun i => fg n m (i : Int)) m.tasks.length 0).getD (-1, 0) else (-1, 12)
theorem Mw (n : Nat) (hn : 200 < n) (hn2 : n < 1000000) (m : Img) (hT : m.tasks.length < n) : gR n ((m.tasks.length : Int), 0, m.1, m.2.1, m.2.2.1, m.2.2.2.1, m.2.2.2.2.1, m.2.2.2.2.2.1, m.2.2.2.2.2.2) = some (match ju (fun i => fg n m (i : Int)) m.tasks.length 0 with | some p => .inl ((p.1, p.2, ()), ((m.1, m.2.1, m.2.2.1, m.2.2.2.1, m.2.2.2.2.1, m.2.2.2.2.2.1, m.2.2.2.2.2.2, ()), ())) | none => .inr ((), ((m.1, m.2.1, m.2.2.1, m.2.2.2.1, m.2.2.2.2.1, m.2.2.2.2.2.1, m.2.2.2.2.2.2, ()), ()))) := by
 unfold gR
 refine d6 (S := fun F => (dM (dm (C_ q_))) (iY n F))
  (fun f x r => ∃ (i : Nat), x = ((m.tasks.length : Int), (i : Int), m.1, m.2.1, m.2.2.1, m.2.2.2.1, m.2.2.2.2.1, m.2.2.2.2.2.1, m.2.2.2.2.2.2) ∧ i ≤ m.tasks.length ∧ m.tasks.length < f + i ∧ r = (match ju (fun i => fg n m (i : Int)) (m.tasks.length - i) i with | some p => .inl ((p.1, p.2, ()), ((m.1, m.2.1, m.2.2.1, m.2.2.2.1, m.2.2.2.2.1, m.2.2.2.2.2.1, m.2.2.2.2.2.2, ()), ())) | none => .inr ((), ((m.1, m.2.1, m.2.2.1, m.2.2.2.1, m.2.2.2.2.1, m.2.2.2.2.2.1, m.2.2.2.2.2.2, ()), ())))) (fun x r ⟨i, _, h1, h2, _⟩ => by omega) (fun f x F hF r => ?_) n _ _ ⟨0, rfl, ao _, by omega, rfl⟩
 rintro ⟨i, rfl, h1, h2, rfl⟩
 show iY n F (m.tasks.length : Int) (i : Int) m.1 m.2.1 m.2.2.1 m.2.2.2.1 m.2.2.2.2.1 m.2.2.2.2.2.1 m.2.2.2.2.2.2 = _
 unfold iY
 rcases am i m.tasks.length with hlt | hge
 ·rw [if_pos (af (by omega)), show fc n (m.1, m.2.1, m.2.2.1, m.2.2.2.1, m.2.2.2.2.1, m.2.2.2.2.2.1, m.2.2.2.2.2.2) (i : Int) = _ from AX n hn hn2 m i, ae, show m.tasks.length - i = (m.tasks.length - (i + 1)) + 1 by omega]
  unfold ju
  try dsimp only
  by_cases h : fg n m (i : Int) ≠ 0
  ·rw [if_pos (ak.2 h), if_pos h]
  ·rw [if_neg (fun k => h (ak.1 k)), if_neg h, di (by omega)]
   exact hF _ _ ⟨i + 1, rfl, by omega, by omega, rfl⟩
 ·have : i = m.tasks.length := by omega
  subst this
  rw [if_neg (by simp), bf]
  rfl
theorem Mx (n : Nat) (hn : 200 < n) (hn2 : n < 1000000) (m : Img) : jL n m = some (ei n m) := by
 obtain ⟨b, e1, e2⟩ := uV n hn hn2 m
 unfold jL ei
 rw [show la n (m.1, m.2.1, m.2.2.1, m.2.2.2.1, m.2.2.2.2.1, m.2.2.2.2.2.1, m.2.2.2.2.2.2) = some b from e1, ae]
 cases b with
 | false =>
  rw [if_pos (show (!false) = true from rfl), if_neg (show ¬ RightP m from fun h => by have := e2.2 h; cases this)]
 | true =>
  have hR := e2.1 rfl
  rw [if_pos hR, if_neg (by decide)]
  rw [show gR n _ = _ from Mw n hn hn2 m (by have := hR.1.2.2.2.2.2.2; omega), ae]
  cases ju (fun i => fg n m (i : Int)) m.tasks.length 0 <;> rfl
abbrev Qz : Sh := .pair (.int .i64) (.pair (.int .i64) (.pair (.int .i64) (.pair (.int .i64) (.pair (.sl (.int .i64)) (.pair (.sl (.int .i64)) (.sl (.pair (.int .i64) (.pair (.int .i64) (.int .i64)))))))))
abbrev PS : Sh := .pair (.int .i64) (.pair (.int .i64) (.pair (.int .i64) (.pair (.int .i64) (.pair (.sl (.int .i64)) (.pair (.sl (.sl (.int .i64))) (.sl Qz))))))
theorem Kn (n : Nat) (hn0 : 200 < n) (hn : n < 1000000) {m : Img} (h : Sh.Sm PS m) : nC n m = some 0 ∨ (nC n m = some 1 ∧ EO m) :=
 Mt n hn0 hn m (by
  have h1 : m.safe.length ≤ 140737488351232 := h.2.2.2.2.1
  have h2 : m.blocks.length ≤ 140737488351232 := h.2.2.2.2.2.1
  have h3 : m.tasks.length ≤ 140737488351232 := h.2.2.2.2.2.2
  omega)
theorem Ch {l : List cY} {m : List Int} {n : Nat} : ∀ (r i : Nat), (gx l m n r i).length = (gu l r i).length
 | 0, i => rfl
 | r + 1, i => by
  have := Ch (l := l) (m := m) (n := n) r (i + 1)
  rw [show gu l (r + 1) i = j7 l i ++ gu l r (i + 1) from rfl]
  unfold gx j7
  rw [aL, aL, this]
  split <;> rfl
abbrev Row := Int × Int × Int × Int × Int × Int
abbrev Row.C (r : Row) : Int := r.1
abbrev Row.B (r : Row) : Int := r.2.1
abbrev Row.T (r : Row) : Int := r.2.2.1
abbrev Row.D (r : Row) : Int := r.2.2.2.1
abbrev Row.P (r : Row) : Int := r.2.2.2.2.2
abbrev du : Row := ((0 : Int), ((0 : Int), ((0 : Int), ((0 : Int), ((0 : Int), (0 : Int))))))
structure RowB (r : Row) : Prop where
 c : 1 ≤ r.1 ∧ r.1 ≤ 2000000
 b : 0 ≤ r.2.1 ∧ r.2.1 ≤ 2000000
 t : 1 ≤ r.2.2.1 ∧ r.2.2.1 ≤ 1048576
 d : 1 ≤ r.2.2.2.1 ∧ r.2.2.2.1 ≤ 1048576
 j : 0 ≤ r.2.2.2.2.1 ∧ r.2.2.2.2.1 ≤ 1048576
 p : 1 ≤ r.2.2.2.2.2 ∧ r.2.2.2.2.2 ≤ 100
structure RowsB (l : List Row) : Prop where
 len : l.length ≤ 8
 all : ∀ r ∈ l, RowB r
theorem RowsB.get {l : List Row} (h : RowsB l) {i : Nat} (hi : i < l.length) : RowB (l.getD i du) := h.all _ (by rw [ar, av hi]; exact aT hi)
theorem fD (n : Nat) (a : Int) (h0 : 0 ≤ a) (h1 : a < 4611686018427387904) : eQ n a = some true := by
 unfold eQ
 rw [if_pos (af h0), af h1]
def small (a : Int) : Prop := 0 ≤ a ∧ a ≤ 1000000000000000
theorem HO (n : Nat) (hn : n < 1000000) (l : List Int) (hl : l.length < n) (hs : ∀ a ∈ l, small a) : pg n l = some true := by
 unfold pg oB
 have := d6 (S := fun F => (C_ q_) (lm n F)) (fun f x r => ∃ i : Nat, x = (l, (l.length : Int), (i : Int)) ∧ i ≤ l.length ∧ l.length < f + i ∧ r = .inr ((), ())) (fun x r ⟨i, _, h1, h2, _⟩ => by omega) (fun f x F hF r => ?_) n (l, (l.length : Int), 0) _ ⟨0, rfl, ao _, by omega, rfl⟩
 ·rw [this]; rfl
 ·rintro ⟨i, rfl, h1, h2, rfl⟩
  show lm n F l (l.length : Int) (i : Int) = _
  unfold lm
  rcases am i l.length with hlt | hge
  ·have hm : l.getD i 0 ∈ l := by rw [ar, av hlt]; exact aT hlt
   have := hs _ hm
   unfold small at this
   rw [if_pos (af (by omega)), if_pos (dc hlt), ai, fD n _ this.1 (by omega), ae, if_neg (by decide), di (by omega)]
   exact hF _ _ ⟨i + 1, rfl, by omega, by omega, rfl⟩
  ·have : i = l.length := by omega
   subst this
   rw [if_neg (by simp)]
theorem PT (a : Int) : ¬ (((a, (0 : Int)) : Int × Int).2 != 0) = true := by simp
theorem R8 (a : Int) : (((a, (0 : Int)) : Int × Int).2 == 0) = true := by simp
theorem EP {l : List Int} (hs : ∀ a ∈ l, small a) : ∀ i, i ≤ l.length → 0 ≤ (l.take i).sum ∧ (l.take i).sum ≤ 1000000000000000 * (i : Int) := by
 intro i
 induction i with
 | zero => intro _; simp
 | succ i ih =>
  intro hi
  have := ih (by omega)
  have hm : l.getD i 0 ∈ l := by rw [ar, av (by omega)]; exact aT (by omega)
  have h2 := hs _ hm
  unfold small at h2
  rw [List.take_add_one, List.sum_append, av (by omega)]
  rw [ar, av (by omega)] at h2
  simp only [bq, Option.toList_some, List.sum_cons, List.sum_nil, cy] at h2 ⊢
  omega
theorem Ko {l : List Int} {i : Nat} (hlt : i < l.length) : (l.take i).sum + l.getD i 0 = (l.take (i + 1)).sum := by
 rw [List.take_add_one, List.sum_append, av hlt, ar, av hlt]
 simp only [bq, Option.toList_some, List.sum_cons, List.sum_nil, cy]
theorem Kp (n : Nat) (hn : n < 1000000) (l : List Int) (hl : l.length < n) (h100 : l.length ≤ 100) (hs : ∀ a ∈ l, small a) : gp n l = some (l.sum, 0) := by
 unfold gp oD
 rw [HO n hn l hl hs, ae, if_neg (by decide)]
 have := d6 (S := fun F => (dm q_) (ln n F)) (fun f x r => ∃ i : Nat, x = ((l.take i).sum, l, (l.length : Int), (i : Int)) ∧ i ≤ l.length ∧ l.length < f + i ∧ r = .inr ((l.sum, ()), ())) (fun x r ⟨i, _, h1, h2, _⟩ => by omega) (fun f x F hF r => ?_) n (0, l, (l.length : Int), 0) _ ⟨0, rfl, ao _, by omega, rfl⟩
 ·rw [this]; rfl
 ·rintro ⟨i, rfl, h1, h2, rfl⟩
  show ln n F (l.take i).sum l (l.length : Int) (i : Int) = _
  unfold ln
  rcases am i l.length with hlt | hge
  ·have h4 := EP hs i h1
   have h5 := EP hs (i + 1) hlt
   rw [if_pos (af (by omega)), if_pos (dc hlt), ai, Ko hlt, dA (e := (l.take (i + 1)).sum) (by omega) (by omega), fD n _ h5.1 (by omega), ae, if_neg (by decide), di (by omega)]
   exact hF _ _ ⟨i + 1, rfl, by omega, by omega, rfl⟩
  ·have : i = l.length := by omega
   subst this
   rw [if_neg (by simp), List.take_length]
theorem QA {a b x : Int} (ha : small a) (hb : small b) (hx : x ∈ [a, b]) : small x := by
 rcases aA.1 hx with rfl | hx
 ·exact ha
 rcases aA.1 hx with rfl | hx
 ·exact hb
 cases hx
theorem AY (n : Nat) (hn0 : 10 < n) (hn : n < 1000000) (a b : Int) (ha : small a) (hb : small b) : gp n [a, b] = some (a + b, 0) := by
 rw [Kp n hn [a, b] (by simp; omega) (by simp) (fun x hx => QA ha hb hx)]
 simp
def il (a b : Int) : Int := if a = 0 then 0 else (a - 1) / b + 1
theorem uW {a b : Int} (ha : 0 ≤ a) (hb : 1 ≤ b) : 0 ≤ a / b ∧ a / b ≤ a := ⟨Int.ediv_nonneg ha (by omega), Int.ediv_le_self _ ha⟩
theorem My {a b : Int} (ha : 0 ≤ a) (hb : 1 ≤ b) : 0 ≤ il a b ∧ il a b ≤ a := by
 unfold il
 split
 ·omega
 ·have := uW (a := a - 1) (b := b) (by omega) hb
  omega
theorem Nx (n : Nat) (a b : Int) (ha : small a) (hb : 1 ≤ b ∧ b ≤ 1048576) : nD n a b = some (il a b, 0) := by
 unfold small at ha
 unfold nD il
 rw [fD n a ha.1 (by omega), ae, if_neg (by decide), fD n b (by omega) (by omega), ae, if_neg (by decide), if_neg (fun h => by have := ag.1 h; omega)]
 by_cases h : a = 0
 ·rw [if_pos (ag.2 h), if_pos h]
 ·have hd := uW (a := a - 1) (b := b) (by omega) hb.1
  rw [if_neg (fun e => h (ag.1 e)), if_neg h, if_neg (fun h => by have := ag.1 h; omega), dA (e := a - 1) (by omega) (by omega), cd (by omega), dA (e := (a - 1) / b) (by omega) (by omega), dA (by omega) (by omega)]
theorem Ci {a b : Int} (ha : 0 ≤ a ∧ a ≤ 100000000) (hb : 0 ≤ b ∧ b ≤ 2000000) : 0 ≤ a * b ∧ a * b ≤ 200000000000000 := by
 refine ⟨cv ha.1 hb.1, ?_⟩
 have h1 : a * b ≤ 100000000 * b := Int.mul_le_mul_of_nonneg_right ha.2 hb.1
 omega
theorem Ny {a b : Int} (ha : 0 ≤ a ∧ a ≤ 100000000) (hb : 1 ≤ b ∧ b ≤ 2000000) : ¬ a > 4611686018427387903 / b := by
 have h := Ci ha ⟨by omega, hb.2⟩
 have : a ≤ 4611686018427387903 / b := (Int.le_ediv_iff_mul_le (by omega)).2 (by omega)
 omega
theorem Kq (n : Nat) (a b : Int) (ha : 0 ≤ a ∧ a ≤ 100000000) (hb : 1 ≤ b ∧ b ≤ 2000000) : je n a b = some (a * b, 0) := by
 unfold je
 have h := Ci ha ⟨by omega, hb.2⟩
 rw [fD n a ha.1 (by omega), ae, if_neg (by decide), fD n b (by omega) (by omega), ae, if_neg (by decide)]
 by_cases hz : a = 0
 ·subst hz; rw [if_pos (show ((0 : Int) == 0) = true from rfl), Int.zero_mul]
 ·have hd := uW (a := 4611686018427387903) (b := b) (by omega) hb.1
  rw [if_neg (fun e => hz (ag.1 e)), if_neg (fun h => by have := ag.1 h; omega), if_neg (fun h => by have := ag.1 h; omega), cd (by omega), dA (e := 4611686018427387903 / b) (by omega) (by omega), if_neg (fun e => Ny ha hb (aC e)), dA (by omega) (by omega)]
def lD (r : Row) (w p : Int) : Int := (il (w + r.2.2.2.2.1) r.2.2.1 + if r.2.2.2.2.2 = p then 1 else 0) * r.1
theorem Cj {r : Row} (hr : RowB r) {w p : Int} (hw : 0 ≤ w ∧ w ≤ 2000000) : 0 ≤ il (w + r.2.2.2.2.1) r.2.2.1 + (if r.2.2.2.2.2 = p then 1 else 0) ∧ il (w + r.2.2.2.2.1) r.2.2.1 + (if r.2.2.2.2.2 = p then 1 else 0) ≤ 10000000 := by
 have := My (a := w + r.2.2.2.2.1) (b := r.2.2.1) (by have := hr.j; omega) hr.t.1
 have h2 : w + r.2.2.2.2.1 ≤ 4000000 := by have := hr.j; omega
 split <;> omega
theorem EQ {r : Row} (hr : RowB r) {w p : Int} (hw : 0 ≤ w ∧ w ≤ 2000000) : 0 ≤ lD r w p ∧ lD r w p ≤ 20000000000000 := by
 have h1 := Cj hr (p := p) hw
 refine ⟨cv h1.1 (by have := hr.c; omega), ?_⟩
 have h2 : lD r w p ≤ 10000000 * r.1 := Int.mul_le_mul_of_nonneg_right h1.2 (by have := hr.c; omega)
 have := hr.c
 omega
theorem Nz (n : Nat) (hn0 : 10 < n) (hn : n < 1000000) {r : Row} (hr : RowB r) {w p : Int} (hw : 0 ≤ w ∧ w ≤ 2000000) : gV n r w p = some (lD r w p, 0) := by
 have hj := hr.j
 have hf := Cj hr (p := p) hw
 unfold gV
 have hs : small (w + r.2.2.2.2.1) := ⟨by omega, by omega⟩
 rw [AY n hn0 hn w r.2.2.2.2.1 ⟨hw.1, by omega⟩ ⟨hj.1, by omega⟩, ae, if_neg (PT _), Nx n _ _ hs hr.t, ae]
 unfold lD
 by_cases hp : r.2.2.2.2.2 = p
 ·rw [if_pos hp] at hf
  rw [if_pos (ag.2 hp), if_pos hp]
  show (je n (wrap .i64 (il (w + r.2.2.2.2.1) r.2.2.1 + 1)) r.1).bind _ = _
  rw [dA (by omega) (by omega), Kq n _ _ ⟨hf.1, by omega⟩ hr.c]
  rfl
 ·rw [if_neg hp, cy] at hf
  rw [if_neg (fun e => hp (ag.1 e)), if_neg hp, cy]
  show (je n (il (w + r.2.2.2.2.1) r.2.2.1) r.1).bind _ = _
  rw [Kq n _ _ ⟨hf.1, by omega⟩ hr.c]
  rfl
theorem ER (n : Nat) (hn0 : 10 < n) (hn : n < 1000000) {r : Row} (hr : RowB r) : gn n r = some true := by
 have hc := hr.c
 have hb := hr.b
 have ht := hr.t
 have hj := hr.j
 have hd := hr.d
 have hp := hr.p
 unfold gn jb
 rw [dA (e := r.1 - 1) (by omega) (by omega), dA (e := r.2.2.1 - 1) (by omega) (by omega)]
 generalize hL : [r.1 - 1, r.2.2.1 - 1, r.1, r.2.2.1, r.2.1, r.2.2.2.2.1] = L
 have hlen : L.length = 6 := by rw [← hL]; rfl
 have hs : ∀ a ∈ L, small a := by
  intro a ha
  rw [← hL] at ha
  unfold small
  simp only [aA, List.not_mem_nil, or_false] at ha
  rcases ha with rfl | rfl | rfl | rfl | rfl | rfl <;> omega
 have := d6 (S := fun F => (dM (dm q_)) (fY n F)) (fun f x q => ∃ i : Nat, x = (L, (i : Int), r.1, r.2.1, r.2.2.1, r.2.2.2.1, r.2.2.2.2.1, r.2.2.2.2.2) ∧ i ≤ 6 ∧ 6 < f + i ∧ q = .inr ((), ((r.1, r.2.1, r.2.2.1, r.2.2.2.1, r.2.2.2.2.1, r.2.2.2.2.2, ()), ()))) (fun x r ⟨i, _, h1, h2, _⟩ => by omega) (fun f x F hF q => ?_) n (L, 0, r.1, r.2.1, r.2.2.1, r.2.2.2.1, r.2.2.2.2.1, r.2.2.2.2.2) _ ⟨0, rfl, ao _, by omega, rfl⟩
 ·rw [this]
  show (if decide (r.2.2.2.1 ≥ 1) = true then _ else _) = _
  rw [if_pos (af (by omega))]
  show (if decide (r.2.2.2.1 ≤ 1048576) = true then _ else _) = _
  rw [if_pos (af (by omega))]
  show (if decide (r.2.2.2.2.2 ≥ 1) = true then some (decide (r.2.2.2.2.2 ≤ 100)) else _) = _
  rw [if_pos (af (by omega)), af (by omega)]
 ·rintro ⟨i, rfl, h1, h2, rfl⟩
  show fY n F L (i : Int) _ _ _ _ _ _ = _
  unfold fY
  rcases am i 6 with hlt | hge
  ·have hm : L.getD i 0 ∈ L := by rw [ar, av (by omega)]; exact aT (by omega)
   have h3 := hs _ hm
   unfold small at h3
   rw [if_pos (af (by omega)), if_pos (show (decide (0 ≤ (i : Int)) && decide ((i : Int) < 6)) = true by simp; omega), ai, fD n _ h3.1 (by omega), ae, if_neg (by decide), di (by omega)]
   exact hF _ _ ⟨i + 1, rfl, by omega, by omega, rfl⟩
  ·have : i = 6 := by omega
   subst this
   rw [if_neg (by simp)]
theorem uX (n : Nat) (hn0 : 10 < n) (hn : n < 1000000) {l : List Row} (h : RowsB l) : jN n l = some true := by
 have h8 := h.len
 unfold jN lZ
 have := d6 (S := fun F => (dm q_) (jd n F)) (fun f x r => ∃ i : Nat, x = (l, l, (l.length : Int), (i : Int)) ∧ i ≤ l.length ∧ l.length < f + i ∧ r = .inr ((l, ()), ())) (fun x r ⟨i, _, h1, h2, _⟩ => by omega) (fun f x F hF r => ?_) n (l, l, (l.length : Int), 0) _ ⟨0, rfl, ao _, by omega, rfl⟩
 ·rw [this]
  show some (decide ((l.length : Int) ≤ 8)) = _
  rw [af (by omega)]
 ·rintro ⟨i, rfl, h1, h2, rfl⟩
  show jd n F l l (l.length : Int) (i : Int) = _
  unfold jd
  rcases am i l.length with hlt | hge
  ·rw [if_pos (af (by omega)), if_pos (dc hlt), ai]
   show ((gn n (l.getD i du)).bind _) = _
   rw [ER n hn0 hn (h.get hlt), ae, if_neg (by decide), di (by omega)]
   exact hF _ _ ⟨i + 1, rfl, by omega, by omega, rfl⟩
  ·have : i = l.length := by omega
   subst this
   rw [if_neg (by simp)]
theorem ES (n : Nat) (hn0 : 10 < n) (hn : n < 1000000) {l : List Row} (h : RowsB l) {i : Nat} (hi : i < l.length) : jO n l (i : Int) = some true := by
 unfold jO
 rw [uX n hn0 hn h, ae, if_pos rfl, if_pos (af (by omega)), af (by omega)]
def im (i : Nat) (w p : Int) : List Row → Nat → Int
 | [], _ => 0
 | r :: t, k => (if k = i ∨ r.2.2.2.2.2 < p then 0 else lD r w p) + im i w p t (k + 1)
theorem xW (i : Nat) {w p : Int} (hw : 0 ≤ w ∧ w ≤ 2000000) : ∀ (l : List Row) (k : Nat), (∀ r ∈ l, RowB r) → 0 ≤ im i w p l k ∧ im i w p l k ≤ 20000000000000 * (l.length : Int)
 | [], _, _ => by unfold im; simp
 | r :: t, k, hr => by
  unfold im
  have h1 := xW i (p := p) hw t (k + 1) (fun r h => hr r (ax _ h))
  have h2 := EQ (hr r (aB ..)) (p := p) hw
  rw [aF]
  split <;> omega
def d5 (l : List Row) (i : Nat) (w : Int) : Int := (l.getD i du).1 + (l.getD i du).2.1 + im i w (l.getD i du).2.2.2.2.2 l 0
theorem Gt (n : Nat) (hn0 : 10 < n) (hn : n < 1000000) {l : List Row} (h : RowsB l) {i : Nat} (hi : i < l.length) {w : Int} (hw : 0 ≤ w ∧ w ≤ 2000000) : lp n l (i : Int) w = some (d5 l i w, 0) := by
 have h8 := h.len
 have hr := h.get hi
 have hc := hr.c
 have hb := hr.b
 unfold lp
 rw [ES n hn0 hn h hi, ae, if_neg (by decide), fD n w hw.1 (by omega), ae, if_neg (by decide), if_pos (dc hi), ai]
 show ((gp n [(l.getD i du).1, (l.getD i du).2.1]).bind _) = _
 unfold d5
 generalize l.getD i du = q at *
 rw [AY n hn0 hn _ _ ⟨by omega, by omega⟩ ⟨hb.1, by omega⟩, ae]
 show ((jY n ((i : Int), w, q.1 + q.2.1, 0, l, (l.length : Int), 0, q.1, q.2.1, q.2.2.1, q.2.2.2.1, q.2.2.2.2.1, q.2.2.2.2.2)).bind _) = _
 unfold jY
 have := d6 (S := fun F => (e8 (dm (C_ q_))) (jP n F)) (fun f x r => ∃ (j : Nat) (s : Int), x = ((i : Int), w, s, 0, l, (l.length : Int), (j : Int), q.1, q.2.1, q.2.2.1, q.2.2.2.1, q.2.2.2.2.1, q.2.2.2.2.2) ∧ j ≤ l.length ∧ l.length < f + j ∧ (0 ≤ s ∧ s ≤ 4000000 + 20000000000000 * (j : Int)) ∧ r = (s + im i w q.2.2.2.2.2 (l.drop j) j, 0, q.1, q.2.1, q.2.2.1, q.2.2.2.1, q.2.2.2.2.1, q.2.2.2.2.2)) (fun x r ⟨j, s, _, h1, h2, _⟩ => by omega) (fun f x F hF r => ?_) n ((i : Int), w, q.1 + q.2.1, 0, l, (l.length : Int), 0, q.1, q.2.1, q.2.2.1, q.2.2.2.1, q.2.2.2.2.1, q.2.2.2.2.2) _ ⟨0, q.1 + q.2.1, rfl, ao _, by omega, by omega, rfl⟩
 ·rw [this, bb, ae, if_neg (by simp)]
 ·rintro ⟨j, s, rfl, h1, h2, h3, rfl⟩
  show jP n F (i : Int) w s 0 l (l.length : Int) (j : Int) _ _ _ _ _ _ = _
  unfold jP
  rcases am j l.length with hlt | hge
  ·rw [if_pos (af (by omega)), if_pos (dc hlt), if_neg (by decide), di (by omega), ai, dP (d := du) hlt]
   have hrj := h.get hlt
   have hin := EQ hrj (p := q.2.2.2.2.2) hw
   unfold im
   by_cases hji : j = i
   ·rw [if_pos (by rw [hji]; exact bc _), if_pos (.inl hji), Int.zero_add]
    exact hF _ _ ⟨j + 1, s, rfl, by omega, by omega, by omega, rfl⟩
   ·rw [if_neg (fun e => hji (by have := ag.1 e; omega))]
    by_cases hp : (l.getD j du).2.2.2.2.2 < q.2.2.2.2.2
    ·rw [if_pos (af hp), if_pos (.inr hp), Int.zero_add]
     exact hF _ _ ⟨j + 1, s, rfl, by omega, by omega, by omega, rfl⟩
    ·rw [if_neg (fun e => hp (aC e)), if_neg (by omega)]
     show ((gV n (l.getD j du) w q.2.2.2.2.2).bind _) = _
     rw [Nz n hn0 hn hrj hw, ae, if_pos (R8 _)]
     show ((gp n [s, lD (l.getD j du) w q.2.2.2.2.2]).bind _) = _
     rw [AY n hn0 hn _ _ ⟨h3.1, by omega⟩ ⟨hin.1, by omega⟩, ae]
     refine hF _ _ ⟨j + 1, s + lD (l.getD j du) w q.2.2.2.2.2, rfl, by omega, by omega, by omega, ?_⟩
     rw [Int.add_assoc]
  ·have : j = l.length := by omega
   subst this
   rw [if_neg (by simp), aU]
   unfold im
   rw [cy]
theorem HP {a a' b b' : Int} (ha : 0 ≤ a) (h : a ≤ a') (hb : 1 ≤ b') (hbb : b' ≤ b) : il a b ≤ il a' b' := by
 unfold il
 split
 ·split
  ·omega
  ·have := uW (a := a' - 1) (b := b') (by omega) hb
   omega
 ·rw [if_neg (by omega)]
  have h1 := (uW (a := a - 1) (b := b) (by omega) (by omega)).1
  have h2 : (a - 1) / b * b ≤ a - 1 := Int.ediv_mul_le _ (by omega)
  have h3 : (a - 1) / b * b' ≤ (a - 1) / b * b := Int.mul_le_mul_of_nonneg_left hbb h1
  have : (a - 1) / b ≤ (a' - 1) / b' := (Int.le_ediv_iff_mul_le (by omega)).2 (by omega)
  omega
theorem zF {r r' : Row} (hr : RowB r) (hr' : RowB r') {w w' p : Int} (hw : 0 ≤ w) (h : w ≤ w') (hw2 : w' ≤ 2000000) (hc : r.1 = r'.1) (hT : r'.2.2.1 ≤ r.2.2.1) (hj : r.2.2.2.2.1 = r'.2.2.2.2.1) (hp : r.2.2.2.2.2 = r'.2.2.2.2.2) : lD r w p ≤ lD r' w' p := by
 unfold lD
 have h0 := hr.j
 have hc0 := hr.c
 have : il (w + r.2.2.2.2.1) r.2.2.1 ≤ il (w' + r'.2.2.2.2.1) r'.2.2.1 := HP (by omega) (by omega) hr'.t.1 hT
 rw [← hc, ← hp]
 refine Int.mul_le_mul_of_nonneg_right ?_ (by omega)
 omega
theorem zG (i : Nat) {w w' p : Int} (hw : 0 ≤ w) (h : w ≤ w') (hw2 : w' ≤ 2000000) : ∀ (l : List Row) (k : Nat), (∀ r ∈ l, RowB r) → im i w p l k ≤ im i w' p l k
 | [], _, _ => aE _
 | r :: t, k, hr => by
  unfold im
  have h1 := zG i hw h hw2 (p := p) t (k + 1) (fun r h => hr r (ax _ h))
  have h2 := zF (hr r (aB ..)) (hr r (aB ..)) (p := p) hw h hw2 rfl (aE _) rfl rfl
  split <;> omega
theorem rY {l : List Row} (hl : RowsB l) (i : Nat) {w w' : Int} (hw : 0 ≤ w) (h : w ≤ w') (hw2 : w' ≤ 2000000) : d5 l i w ≤ d5 l i w' := by
 unfold d5
 have := zG i (p := (l.getD i du).2.2.2.2.2) hw h hw2 l 0 hl.all
 omega
theorem oN {l : List Row} (hl : RowsB l) {i : Nat} (hi : i < l.length) {w : Int} (hw : 0 ≤ w ∧ w ≤ 2000000) : (l.getD i du).1 ≤ d5 l i w ∧ 0 ≤ d5 l i w := by
 unfold d5
 have := xW i (p := (l.getD i du).2.2.2.2.2) hw l 0 hl.all
 have hb := (hl.get hi).b
 have hc := (hl.get hi).c
 omega
def fP (l : List Row) (i : Nat) (F : Int → Option (Int × Int)) (w : Int) : Option (Int × Int) :=
 if d5 l i w > (l.getD i du).2.2.2.1 then some (0, 13) else
 if (l.getD i du).2.2.2.2.1 > (l.getD i du).2.2.2.1 - d5 l i w then some (0, 13) else
 if d5 l i w = w then some ((l.getD i du).2.2.2.2.1 + w, 0) else F (d5 l i w)
abbrev wB (l : List Row) (i : Nat) : Nat → Int → Option (Int × Int) := it (fP l i)
theorem Mz {l : List Row} (hl : RowsB l) {i : Nat} (hi : i < l.length) : ∀ (f : Nat) (w : Int), 0 ≤ w → w ≤ d5 l i w → w ≤ (l.getD i du).2.2.2.1 → (l.getD i du).2.2.2.1 - w < f → ∃ r, wB l i f w = some r := by
 have hd := (hl.get hi).d
 intro f
 induction f with
 | zero => intro w h0 h1 h2 h3; omega
 | succ f ih =>
  intro w h0 h1 h2 h3
  show ∃ r, fP l i (it (fP l i) f) w = some r
  unfold fP
  split
  ·exact ⟨_, rfl⟩
  ·split
   ·exact ⟨_, rfl⟩
   ·split
    ·exact ⟨_, rfl⟩
    ·exact ih _ (by omega) (rY hl i h0 h1 (by omega)) (by omega) (by omega)
theorem MA {l : List Row} {i : Nat} : ∀ (f : Nat) (w : Int) (r : Int × Int), wB l i f w = some r → wB l i (f + 1) w = some r := by
 intro f
 induction f with
 | zero => intro w r h; cases h
 | succ f ih =>
  intro w r h
  have h' : fP l i (it (fP l i) f) w = some r := h
  show fP l i (it (fP l i) (f + 1)) w = some r
  unfold fP at h' ⊢
  split at h'
  ·rename_i c; rw [if_pos c]; exact h'
  ·rename_i c
   rw [if_neg c]
   split at h'
   ·rename_i c; rw [if_pos c]; exact h'
   ·rename_i c
    rw [if_neg c]
    split at h'
    ·rename_i c; rw [if_pos c]; exact h'
    ·rename_i c
     rw [if_neg c]
     exact ih _ _ h'
theorem MB {l : List Row} {i : Nat} {f g : Nat} {w : Int} {r : Int × Int} (h : f ≤ g) (hr : wB l i f w = some r) : wB l i g w = some r := by
 induction h with
 | refl => exact hr
 | step _ ih => exact MA _ _ _ ih
def ep (l : List Row) (i : Nat) : Int × Int := (wB l i 25000 0).getD (0, 0)
theorem rZ {l : List Row} (hl : RowsB l) {i : Nat} (hi : i < l.length) (hd : (l.getD i du).2.2.2.1 ≤ 20000) {n : Nat} (hn : 25000 ≤ n) : wB l i n 0 = some (ep l i) := by
 have h0 := (hl.get hi).d
 obtain ⟨r, hr⟩ := Mz hl hi 25000 0 (aE _) (oN hl hi (by omega)).2 (by omega) (by omega)
 refine MB hn ?_
 unfold ep
 rw [hr]
 rfl
theorem Kr (n : Nat) (hn0 : 200 < n) (hn : n < 1000000) {l : List Row} (h : RowsB l) {i : Nat} (hi : i < l.length) : ∀ (f : Nat) (w : Int), 0 ≤ w ∧ w ≤ 2000000 →
  it (fun F => (dM (dm (C_ q_))) (gq n F)) f (l, (i : Int), w, (l.getD i du).1, (l.getD i du).2.1, (l.getD i du).2.2.1, (l.getD i du).2.2.2.1, (l.getD i du).2.2.2.2.1, (l.getD i du).2.2.2.2.2) = (wB l i f w).map fun r => (r.1, r.2, (l.getD i du).1, (l.getD i du).2.1, (l.getD i du).2.2.1, (l.getD i du).2.2.2.1, (l.getD i du).2.2.2.2.1, (l.getD i du).2.2.2.2.2) := by
 have hd := (h.get hi).d
 have hj := (h.get hi).j
 intro f
 induction f with
 | zero => intro w hw; rfl
 | succ f ih =>
  intro w hw
  show gq n _ l (i : Int) w _ _ _ _ _ _ = (fP l i (it (fP l i) f) w).map _
  have hin := oN h hi hw
  unfold gq fP
  rw [Gt n (by omega) hn h hi hw, ae, if_neg (PT _)]
  by_cases c1 : d5 l i w > (l.getD i du).2.2.2.1
  ·rw [if_pos (af c1), if_pos c1]; rfl
  ·rw [if_neg (fun e => c1 (aC e)), if_neg c1, dA (e := (l.getD i du).2.2.2.1 - d5 l i w) (by omega) (by omega)]
   by_cases c2 : (l.getD i du).2.2.2.2.1 > (l.getD i du).2.2.2.1 - d5 l i w
   ·rw [if_pos (af c2), if_pos c2]; rfl
   ·rw [if_neg (fun e => c2 (aC e)), if_neg c2]
    by_cases c3 : d5 l i w = w
    ·rw [if_neg (fun e => ak.1 e c3), if_pos c3]
     show (some (wrap .i64 ((l.getD i du).2.2.2.2.1 + w), 0, (l.getD i du).1, (l.getD i du).2.1, (l.getD i du).2.2.1, (l.getD i du).2.2.2.1, (l.getD i du).2.2.2.2.1, (l.getD i du).2.2.2.2.2) : Option _) = _
     rw [dA (e := (l.getD i du).2.2.2.2.1 + w) (by omega) (by omega)]; rfl
    ·rw [if_pos (ak.2 c3), if_neg c3]
     exact ih _ (by omega)
theorem NA (n : Nat) (hn0 : 25000 ≤ n) (hn : n < 1000000) {l : List Row} (h : RowsB l) {i : Nat} (hi : i < l.length) (hd2 : (l.getD i du).2.2.2.1 ≤ 20000) : jq n l (i : Int) = some (ep l i) := by
 have hd := (h.get hi).d
 have hj := (h.get hi).j
 have hr := rZ h hi hd2 (show 25000 ≤ n + 1 by omega)
 have hin := oN h hi (show (0 : Int) ≤ 0 ∧ (0 : Int) ≤ 2000000 by omega)
 have h2 : fP l i (it (fP l i) n) 0 = some (ep l i) := hr
 unfold jq
 rw [ES n (by omega) hn h hi, ae, if_neg (by decide), if_pos (dc hi), Gt n (by omega) hn h hi (by omega), ae, if_neg (PT _), ai, ← h2]
 unfold fP
 by_cases c1 : d5 l i 0 > (l.getD i du).2.2.2.1
 ·rw [if_pos (af c1), if_pos c1]
 ·rw [if_neg (fun e => c1 (aC e)), if_neg c1]
  show (if decide ((l.getD i du).2.2.2.2.1 > (wrap .i64 ((l.getD i du).2.2.2.1 - d5 l i 0))) = true then _ else _) = _
  rw [dA (e := (l.getD i du).2.2.2.1 - d5 l i 0) (by omega) (by omega)]
  by_cases c2 : (l.getD i du).2.2.2.2.1 > (l.getD i du).2.2.2.1 - d5 l i 0
  ·rw [if_pos (af c2), if_pos c2]
  ·rw [if_neg (fun e => c2 (aC e)), if_neg c2]
   by_cases c3 : d5 l i 0 = 0
   ·rw [if_neg (fun e => ak.1 e c3), if_pos c3]
    show some (wrap .i64 ((l.getD i du).2.2.2.2.1 + 0), 0) = _
    rw [dA (by omega) (by omega)]
   ·rw [if_pos (ak.2 c3), if_neg c3]
    have := Kr n (by omega) hn h hi n (d5 l i 0) (by omega)
    unfold jE
    show (it _ n (l, (i : Int), d5 l i 0, (l.getD i du).1, (l.getD i du).2.1, (l.getD i du).2.2.1, (l.getD i du).2.2.2.1, (l.getD i du).2.2.2.2.1, (l.getD i du).2.2.2.2.2)).bind _ = _
    rw [this]
    show (Option.map _ (it (fP l i) n (d5 l i 0))).bind _ = it (fP l i) n (d5 l i 0)
    generalize it (fP l i) n (d5 l i 0) = z
    cases z <;> rfl
def uY (R : Nat → Int × Int) : Nat → Nat → List Int → List Int × Int × Int
 | 0, _, o => (o, -1, 0)
 | k + 1, i, o => if (R i).2 ≠ 0 then ([], (i : Int), (R i).2) else uY R k (i + 1) (o ++ [(R i).1])
def xX (l : List Row) : List Int × Int × Int := uY (ep l) l.length 0 []
def ET (R : Nat → Int × Int) : Nat → Nat → List Int → (((List Int × Int × Int × Unit) × Unit) ⊕ ((List Int × Unit) × Unit))
 | 0, _, o => .inr ((o, ()), ())
 | k + 1, i, o => if (R i).2 ≠ 0 then .inl (([], (i : Int), (R i).2, ()), ()) else ET R k (i + 1) (o ++ [(R i).1])
theorem Gu (R : Nat → Int × Int) : ∀ (k i : Nat) (o : List Int), (Sum.elim (fun (z3 : (((List Int) × Int × Int × Unit) × Unit)) => (some (z3.1.1, z3.1.2.1, z3.1.2.2.1))) (fun (z4 : (((List Int) × Unit) × Unit)) => (some (z4.1.1, (-1), 0))) (ET R k i o) : Option (List Int × Int × Int)) = some (uY R k i o)
 | 0, _, _ => rfl
 | k + 1, i, o => by
  unfold ET uY
  split
  ·rfl
  ·exact Gu R k (i + 1) _
theorem Ks (n : Nat) (hn0 : 25000 ≤ n) (hn : n < 1000000) {l : List Row} (h : RowsB l) (hd2 : ∀ r ∈ l, r.2.2.2.1 ≤ 20000) : jf n l = some (xX l) := by
 have h8 := h.len
 unfold jf lq
 rw [uX n (by omega) hn h, ae, if_neg (by decide)]
 have := d6 (S := fun F => (dm q_) (iD n F)) (fun f x r => ∃ (i : Nat) (o : List Int), x = (l, o, (l.length : Int), (i : Int)) ∧ i ≤ l.length ∧ l.length < f + i ∧ o.length ≤ i ∧ r = ET (ep l) (l.length - i) i o) (fun x r ⟨i, _, _, h1, h2, _⟩ => by omega) (fun f x F hF r => ?_) n (l, [], (l.length : Int), 0) _ ⟨0, [], rfl, ao _, by omega, by simp, rfl⟩
 ·rw [this]
  exact Gu _ _ _ _
 ·rintro ⟨i, o, rfl, h1, h2, h3, rfl⟩
  show iD n F l o (l.length : Int) (i : Int) = _
  unfold iD
  rcases am i l.length with hlt | hge
  ·obtain ⟨k, hk⟩ : ∃ k, l.length - i = k + 1 := ⟨l.length - i - 1, by omega⟩
   have hm : l.getD i du ∈ l := by rw [ar, av hlt]; exact aT hlt
   rw [if_pos (af (by omega)), NA n hn0 hn h hlt (hd2 _ hm), ae, hk]
   unfold ET
   by_cases c : (ep l i).2 ≠ 0
   ·rw [if_pos (ak.2 c), if_pos c]
   ·rw [if_neg (fun e => c (ak.1 e)), if_neg c, if_pos (by rw [af (show (o.length + 1) * 8 ≤ 140737488355328 by omega)]; rfl), di (by omega)]
    exact hF _ _ ⟨i + 1, o ++ [(ep l i).1], rfl, by omega, by omega, by rw [aL]; simp; omega, by rw [show l.length - (i + 1) = k by omega]⟩
  ·have : i = l.length := by omega
   subst this
   rw [if_neg (by simp), bf]
   rfl
abbrev fE := Int × List Int × List Int
abbrev eK : fE := ((0 : Int), ([], []))
structure UseOk (b : Int) (u : fE) : Prop where
 p : 1 ≤ u.1 ∧ u.1 ≤ 100
 r : Rises b (-1) u.2.1
 len : u.2.1.length = u.2.2.length
 l : ∀ a ∈ u.2.2, 0 ≤ a ∧ a ≤ 1099511627776
structure UsesOk (b : Int) (l : List fE) : Prop where
 bl : 0 ≤ b ∧ b ≤ 8
 len : l.length ≤ 8
 all : ∀ u ∈ l, UseOk b u
theorem UsesOk.get {b : Int} {l : List fE} (h : UsesOk b l) {i : Nat} (hi : i < l.length) : UseOk b (l.getD i eK) := h.all _ (by rw [ar, av hi]; exact aT hi)
theorem xY {l : List Int} {i : Nat} (hi : i < l.length) : l.getD i 0 ∈ l := by rw [ar, av hi]; exact aT hi
theorem UseOk.small {b : Int} {u : fE} (h : UseOk b u) (hb : b ≤ 8) : u.2.1.length ≤ 8 := by
 have h1 := h.r.len
 by_cases hb0 : -1 < b
 ·have := h1 hb0; omega
 ·cases hu : u.2.1 with
  | nil => simp
  | cons x t => have := h.r.mem x (by rw [hu]; exact aB ..); omega
theorem Rises.drop {e : Int} {l : List Int} {b : Int} (h : Rises e b l) : ∀ {i : Nat}, i < l.length → Rises e (if i = 0 then b else l.getD (i - 1) 0) (l.drop i) := by
 induction l generalizing b with
 | nil => intro i hi; simp at hi
 | cons x t ih =>
  intro i hi
  cases i with
  | zero => exact h
  | succ i =>
   have h2 : Rises e x t := h.2.2
   rw [if_neg (by omega), List.drop_succ_cons, cw]
   cases i with
   | zero => exact h2
   | succ i =>
    have := ih h2 (i := i + 1) (by simpa using hi)
    rw [if_neg (by omega), cw] at this
    exact this
theorem Rises.at {e : Int} {l : List Int} {b : Int} (h : Rises e b l) {i : Nat} (hi : i < l.length) : (if i = 0 then b else l.getD (i - 1) 0) < l.getD i 0 ∧ l.getD i 0 < e := by
 have := h.drop hi
 rw [dP (d := (0 : Int)) hi] at this
 exact ⟨this.1, this.2.1⟩
theorem EU (n : Nat) (hn0 : 200 < n) (hn : n < 1000000) {b : Int} (hb : 0 ≤ b ∧ b ≤ 8) {u : fE} (h : UseOk b u) : t0 n u b = some true := by
 have h8 := h.small hb.2
 have hp := h.p
 have hlen := h.len
 unfold t0 tZ
 rw [if_neg (fun e => by have := aC e; omega), if_neg (fun e => by have := aC e; omega), if_neg (fun e => by have := ak.1 e; omega)]
 have := d6 (S := fun F => (dM (dm q_)) (qv n F)) (fun f x r => ∃ i : Nat, x = (b, (if i = 0 then -1 else u.2.1.getD (i - 1) 0), u.2.1, (u.2.1.length : Int), (i : Int), u.1, u.2.1, u.2.2) ∧ i ≤ u.2.1.length ∧ u.2.1.length < f + i ∧ r = .inr ((), ((u.1, u.2.1, u.2.2, ()), ()))) (fun x r ⟨i, _, h1, h2, _⟩ => by omega) (fun f x F hF r => ?_) n (b, -1, u.2.1, (u.2.1.length : Int), 0, u.1, u.2.1, u.2.2) _ ⟨0, rfl, ao _, by omega, rfl⟩
 ·rw [this]; rfl
 ·rintro ⟨i, rfl, h1, h2, rfl⟩
  show qv n F b (if i = 0 then -1 else u.2.1.getD (i - 1) 0) u.2.1 (u.2.1.length : Int) (i : Int) u.1 u.2.1 u.2.2 = _
  unfold qv
  rcases am i u.2.1.length with hlt | hge
  ·have hr := h.r.at hlt
   have hl := h.l _ (xY (l := u.2.2) (i := i) (by omega))
   rw [if_pos (af (by omega)), if_pos (dc hlt), ai, if_neg (fun e => by have := aC e; omega), if_neg (fun e => by have := aC e; omega), if_pos (dc (by omega)), if_neg (fun e => by have := aC e; omega), if_pos (dc (by omega)), if_neg (fun e => by have := aC e; omega), di (by omega)]
   exact hF _ _ ⟨i + 1, by rw [if_neg (by omega), cw], by omega, by omega, rfl⟩
  ·have : i = u.2.1.length := by omega
   subst this
   rw [if_neg (by simp)]
theorem sw (n : Nat) (hn0 : 200 < n) (hn : n < 1000000) {b : Int} {l : List fE} (h : UsesOk b l) : i7 n b l = some true := by
 have h8 := h.len
 have hb := h.bl
 unfold i7 li
 have := d6 (S := fun F => (dm (C_ q_)) (iA n F)) (fun f x r => ∃ i : Nat, x = (b, l, l, (l.length : Int), (i : Int)) ∧ i ≤ l.length ∧ l.length < f + i ∧ r = .inr ((b, l, ()), ())) (fun x r ⟨i, _, h1, h2, _⟩ => by omega) (fun f x F hF r => ?_) n (b, l, l, (l.length : Int), 0) _ ⟨0, rfl, ao _, by omega, rfl⟩
 ·rw [this]
  show (if decide (b ≥ 0) = true then if decide (b ≤ 8) = true then some (decide ((l.length : Int) ≤ 8)) else _ else _) = _
  rw [if_pos (af hb.1), if_pos (af hb.2), af (by omega)]
 ·rintro ⟨i, rfl, h1, h2, rfl⟩
  show iA n F b l l (l.length : Int) (i : Int) = _
  unfold iA
  rcases am i l.length with hlt | hge
  ·rw [if_pos (af (by omega)), if_pos (dc hlt), ai]
   show ((t0 n (l.getD i eK) b).bind _) = _
   rw [EU n hn0 hn hb (h.get hlt), ae, if_neg (by decide), di (by omega)]
   exact hF _ _ ⟨i + 1, rfl, by omega, by omega, rfl⟩
  ·have : i = l.length := by omega
   subst this
   rw [if_neg (by simp)]
def hi (p m : Int) : Int := if p > m then p else m
def uZ (p : Int) : List Int → List Int → List Int
 | [], c => c
 | k :: t, c => uZ p t (c.set k.toNat (hi p (c.getD k.toNat 0)))
def pB : List fE → List Int → List Int
 | [], c => c
 | u :: t, c => pB t (uZ u.1 u.2.1 c)
def dY (b : Int) (l : List fE) : List Int := pB l (List.replicate b.toNat 0)
theorem oO (p : Int) : ∀ (k c : List Int), (uZ p k c).length = c.length
 | [], c => rfl
 | x :: t, c => by unfold uZ; rw [oO p t, aP]
theorem Ck : ∀ (l : List fE) (c : List Int), (pB l c).length = c.length
 | [], c => rfl
 | u :: t, c => by unfold pB; rw [Ck t, oO]
def nJ (p k : Int) : List Int → Int → Int
 | [], m => m
 | x :: t, m => nJ p k t (if x = k then hi p m else m)
def nK (k : Int) : List fE → Int → Int
 | [], m => m
 | u :: t, m => nK k t (nJ u.1 k u.2.1 m)
def lE (l : List fE) (k : Int) : Int := nK k l 0
theorem Gv (p : Int) {k : Int} (hk : 0 ≤ k) : ∀ (s c : List Int), k < (c.length : Int) → (∀ x ∈ s, 0 ≤ x ∧ x < (c.length : Int)) → (uZ p s c).getD k.toNat 0 = nJ p k s (c.getD k.toNat 0)
 | [], c, _, _ => rfl
 | x :: t, c, hc, hs => by
  unfold uZ nJ
  have hx := hs x (aB ..)
  rw [Gv p hk t _ (by rw [aP]; exact hc) (fun y hy => by rw [aP]; exact hs y (ax _ hy))]
  congr 1
  by_cases e : x = k
  ·subst e
   rw [if_pos rfl, ar, List.getElem?_set_self (by omega)]
   rfl
  ·rw [if_neg e, ar, List.getElem?_set_ne (by omega), ← ar]
theorem EV {k : Int} (hk : 0 ≤ k) : ∀ (l : List fE) (c : List Int), k < (c.length : Int) → (∀ u ∈ l, ∀ x ∈ u.2.1, 0 ≤ x ∧ x < (c.length : Int)) → (pB l c).getD k.toNat 0 = nK k l (c.getD k.toNat 0)
 | [], c, _, _ => rfl
 | u :: t, c, hc, hs => by
  unfold pB nK
  rw [EV hk t _ (by rw [oO]; exact hc) (fun v hv x hx => by rw [oO]; exact hs v (ax _ hv) x hx), Gv u.1 hk _ _ hc (hs u (aB ..))]
theorem UsesOk.rng {b : Int} {l : List fE} (h : UsesOk b l) : ∀ u ∈ l, ∀ x ∈ u.2.1, 0 ≤ x ∧ x < b := fun u hu x hx => by
 have := (h.all u hu).r.mem x hx
 omega
theorem HQ (b : Int) (l : List fE) : (dY b l).length = b.toNat := by unfold dY; rw [Ck, bp]
theorem Kt {b : Int} {l : List fE} (h : UsesOk b l) {k : Int} (h0 : 0 ≤ k) (h1 : k < b) : (dY b l).getD k.toNat 0 = lE l k := by
 unfold dY lE
 have hlen : ((List.replicate b.toNat (0 : Int)).length : Int) = b := by rw [bp]; omega
 rw [EV h0 l _ (by omega) (fun u hu x hx => by rw [hlen]; exact h.rng u hu x hx)]
 congr 1
 rw [ar, bV]
 split <;> rfl
theorem NB (n : Nat) (hn0 : 200 < n) (hn : n < 1000000) (l : List fE) (a i p : Int) (s t c : List Int) (hlen : s.length = t.length) (h8 : s.length ≤ 8) (hs : ∀ x ∈ s, 0 ≤ x ∧ x < (c.length : Int)) :
  gU n (l, a, i, s, (s.length : Int), 0, c, p, s, t) = some (l, a, i, uZ p s c, p, s, t) := by
 unfold gU
 refine d6 (S := fun F => (e8 q_) (i8 n F)) (fun f x r => ∃ (j : Nat) (d : List Int), x = (l, a, i, s, (s.length : Int), (j : Int), d, p, s, t) ∧ j ≤ s.length ∧ s.length < f + j ∧ d.length = c.length ∧ r = (l, a, i, uZ p (s.drop j) d, p, s, t)) (fun x r ⟨j, _, _, h1, h2, _⟩ => by omega) (fun f x F hF r => ?_) n _ _ ⟨0, c, rfl, ao _, by omega, rfl, rfl⟩
 rintro ⟨j, d, rfl, h1, h2, h3, rfl⟩
 show i8 n F l a i s (s.length : Int) (j : Int) d p s t = _
 unfold i8
 rcases am j s.length with hlt | hge
 ·have hx := hs _ (xY hlt)
  rw [if_pos (af (by omega)), if_pos (dc hlt), if_pos (dc (by omega)), ai, dP (d := (0 : Int)) hlt]
  have : gI n (p, (s, t)) (s.getD j 0) (t.getD j 0) d = some (d.set (s.getD j 0).toNat (hi p (d.getD (s.getD j 0).toNat 0))) := by
   unfold gI hi
   rw [if_pos (qQ hx.1 (by rw [h3]; exact hx.2)), if_pos (qQ hx.1 (by rw [h3]; exact hx.2))]
  rw [this, ae, di (by omega)]
  exact hF _ _ ⟨j + 1, _, rfl, by omega, by omega, by rw [aP]; exact h3, rfl⟩
 ·have : j = s.length := by omega
  subst this
  rw [if_neg (by simp), aU]
  rfl
theorem NC (n : Nat) (hn0 : 200 < n) (hn : n < 1000000) (l : List fE) (c : List Int) (h8 : l.length ≤ 8) (hs : ∀ u ∈ l, u.2.1.length = u.2.2.length ∧ u.2.1.length ≤ 8 ∧ ∀ x ∈ u.2.1, 0 ≤ x ∧ x < (c.length : Int)) : mj n l c = some (pB l c) := by
 unfold mj lW
 have := d6 (S := fun F => (dm q_) (i9 n F)) (fun f x r => ∃ (j : Nat) (d : List Int), x = (l, (l.length : Int), (j : Int), d) ∧ j ≤ l.length ∧ l.length < f + j ∧ d.length = c.length ∧ r = pB (l.drop j) d) (fun x r ⟨j, _, _, h1, h2, _⟩ => by omega) (fun f x F hF r => ?_) n (l, (l.length : Int), 0, c) _ ⟨0, c, rfl, ao _, by omega, rfl, rfl⟩
 ·rw [this, bb]; rfl
 ·rintro ⟨j, d, rfl, h1, h2, h3, rfl⟩
  show i9 n F l (l.length : Int) (j : Int) d = _
  unfold i9
  rcases am j l.length with hlt | hge
  ·have hm : l.getD j eK ∈ l := by rw [ar, av hlt]; exact aT hlt
   obtain ⟨k1, k2, k3⟩ := hs _ hm
   rw [if_pos (af (by omega)), if_pos (dc hlt), ai, dP (d := eK) hlt]
   show ((gU n (l, (l.length : Int), (j : Int), (l.getD j eK).2.1, ((l.getD j eK).2.1.length : Int), 0, d, (l.getD j eK).1, (l.getD j eK).2.1, (l.getD j eK).2.2)).bind _) = _
   rw [NB n hn0 hn l _ _ _ _ _ d k1 k2 (fun x hx => by rw [h3]; exact k3 x hx), ae]
   show F (l, (l.length : Int), wrap .i64 ((j : Int) + 1), _) = _
   rw [di (by omega)]
   exact hF _ _ ⟨j + 1, _, rfl, by omega, by omega, by rw [oO]; exact h3, rfl⟩
  ·have : j = l.length := by omega
   subst this
   rw [if_neg (by simp), aU]
   rfl
theorem wC (n : Nat) (hn0 : 200 < n) (hn : n < 1000000) {b : Int} {l : List fE} (h : UsesOk b l) : fI n b l = some (dY b l) := by
 have hb := h.bl
 unfold fI
 rw [sw n hn0 hn h, ae, if_neg (by decide), if_pos (by rw [af hb.1, bc, af (show b * 8 ≤ 140737488355328 by omega)]; rfl)]
 rw [NC n hn0 hn l _ h.len (fun u hu => ⟨(h.all u hu).len, (h.all u hu).small hb.2, fun x hx => by have := h.rng u hu x hx; rw [bp]; omega⟩)]
 rfl
def ip (c : Int → Int) (p q : Int) : List Int → List Int → Int → Int
 | k :: s, a :: t, m => ip c p q s t (if q < p then if c k ≥ p then hi a m else m else m)
 | _, _, m => m
def jw (c : Int → Int) (p : Int) : List fE → Int → Int
 | [], m => m
 | u :: t, m => jw c p t (ip c p u.1 u.2.1 u.2.2 m)
def pC (l : List fE) (i : Nat) : Int := jw (lE l) (l.getD i eK).1 l 0
def fh (l : List fE) : List Int := (List.range l.length).map (fun (k : Nat) => pC l k)
theorem ND (n : Nat) (hn0 : 200 < n) (hn : n < 1000000) {b : Int} {l : List fE} (h : UsesOk b l) (p : Int) (ob ol : List Int) {i : Nat} (hi : i < l.length) (m : Int) :
  mO n (l, (l.length : Int), (i : Int), (l.getD i eK).2.1, ((l.getD i eK).2.1.length : Int), 0, p, ob, ol, dY b l, m, (l.getD i eK).1, (l.getD i eK).2.1, (l.getD i eK).2.2) = some (l, (l.length : Int), (i : Int), p, ob, ol, dY b l, ip (lE l) p (l.getD i eK).1 (l.getD i eK).2.1 (l.getD i eK).2.2 m, (l.getD i eK).1, (l.getD i eK).2.1, (l.getD i eK).2.2) := by
 have hu := h.get hi
 have h8 := hu.small h.bl.2
 have hlen := hu.len
 have hb := h.bl
 generalize hq : l.getD i eK = u at *
 unfold mO
 refine d6 (S := fun F => (e8 (dM q_)) (qy n F)) (fun f x r => ∃ (j : Nat) (m : Int), x = (l, (l.length : Int), (i : Int), u.2.1, (u.2.1.length : Int), (j : Int), p, ob, ol, dY b l, m, u.1, u.2.1, u.2.2) ∧ j ≤ u.2.1.length ∧ u.2.1.length < f + j ∧ r = (l, (l.length : Int), (i : Int), p, ob, ol, dY b l, ip (lE l) p u.1 (u.2.1.drop j) (u.2.2.drop j) m, u.1, u.2.1, u.2.2)) (fun x r ⟨j, _, _, h1, h2, _⟩ => by omega) (fun f x F hF r => ?_) n _ _ ⟨0, m, rfl, ao _, by omega, rfl⟩
 rintro ⟨j, m, rfl, h1, h2, rfl⟩
 show qy n F l (l.length : Int) (i : Int) u.2.1 (u.2.1.length : Int) (j : Int) p ob ol (dY b l) m u.1 u.2.1 u.2.2 = _
 unfold qy
 rcases am j u.2.1.length with hlt | hge
 ·have hm := hu.r.mem _ (xY hlt)
  have hcl : ((dY b l).length : Int) = b := by rw [HQ]; omega
  rw [if_pos (af (by omega)), if_pos (dc hlt), if_pos (dc (by omega)), ai, dP (d := (0 : Int)) hlt, dP (d := (0 : Int)) (l := u.2.2) (by omega)]
  have : jp n (u.1, (u.2.1, u.2.2)) (u.2.1.getD j 0) (u.2.2.getD j 0) p ob ol (dY b l) m = some (p, ob, ol, dY b l, if u.1 < p then if lE l (u.2.1.getD j 0) ≥ p then Go.Proofs.Dk.hi (u.2.2.getD j 0) m else m else m) := by
   unfold jp Go.Proofs.Dk.hi
   by_cases c1 : u.1 < p
   ·rw [if_pos (af c1), if_pos c1, if_pos (qQ (by omega) (by rw [hcl]; omega)), Kt h (by omega) (by omega)]
    by_cases c2 : lE l (u.2.1.getD j 0) ≥ p
    ·rw [if_pos (af c2), if_pos c2]
    ·rw [if_neg (fun e => c2 (aC e)), if_neg c2]
   ·rw [if_neg (fun e => c1 (aC e)), if_neg c1]
  rw [this, ae, di (by omega)]
  exact hF _ _ ⟨j + 1, _, rfl, by omega, by omega, rfl⟩
 ·have : j = u.2.1.length := by omega
  subst this
  rw [if_neg (by simp), aU]
  rfl
theorem MC (n : Nat) (hn0 : 200 < n) (hn : n < 1000000) {b : Int} {l : List fE} (h : UsesOk b l) (p : Int) (ob ol : List Int) : ua n l p ob ol (dY b l) 0 = some (p, ob, ol, dY b l, jw (lE l) p l 0) := by
 have h8 := h.len
 unfold ua t9
 have := d6 (S := fun F => (dM (dm q_)) (qz n F)) (fun f x r => ∃ (j : Nat) (m : Int), x = (l, (l.length : Int), (j : Int), p, ob, ol, dY b l, m) ∧ j ≤ l.length ∧ l.length < f + j ∧ r = (p, ob, ol, dY b l, jw (lE l) p (l.drop j) m)) (fun x r ⟨j, _, _, h1, h2, _⟩ => by omega) (fun f x F hF r => ?_) n (l, (l.length : Int), 0, p, ob, ol, dY b l, 0) _ ⟨0, 0, rfl, ao _, by omega, rfl⟩
 ·rw [this, bb]; rfl
 ·rintro ⟨j, m, rfl, h1, h2, rfl⟩
  show qz n F l (l.length : Int) (j : Int) p ob ol (dY b l) m = _
  unfold qz
  rcases am j l.length with hlt | hge
  ·rw [if_pos (af (by omega)), if_pos (dc hlt), ai, dP (d := eK) hlt]
   show ((mO n (l, (l.length : Int), (j : Int), (l.getD j eK).2.1, ((l.getD j eK).2.1.length : Int), 0, p, ob, ol, dY b l, m, (l.getD j eK).1, (l.getD j eK).2.1, (l.getD j eK).2.2)).bind _) = _
   rw [ND n hn0 hn h p ob ol hlt m, ae]
   show F (l, (l.length : Int), wrap .i64 ((j : Int) + 1), _) = _
   rw [di (by omega)]
   exact hF _ _ ⟨j + 1, _, rfl, by omega, by omega, rfl⟩
  ·have : j = l.length := by omega
   subst this
   rw [if_neg (by simp), aU]
   rfl
theorem MD (n : Nat) (hn0 : 200 < n) (hn : n < 1000000) {b : Int} {l : List fE} (h : UsesOk b l) : ja n b l = some (fh l) := by
 have h8 := h.len
 unfold ja lk
 rw [sw n hn0 hn h, ae, if_neg (by decide), wC n hn0 hn h, ae]
 have := d6 (S := fun F => (dM q_) (iB n F)) (fun f x r => ∃ (j : Nat), x = (l, (List.range j).map (fun (k : Nat) => pC l k), l, (l.length : Int), (j : Int), dY b l) ∧ j ≤ l.length ∧ l.length < f + j ∧ r = (fh l, dY b l)) (fun x r ⟨j, _, h1, h2, _⟩ => by omega) (fun f x F hF r => ?_) n (l, [], l, (l.length : Int), 0, dY b l) _ ⟨0, rfl, ao _, by omega, rfl⟩
 ·rw [this]; rfl
 ·rintro ⟨j, rfl, h1, h2, rfl⟩
  show iB n F l ((List.range j).map (fun (k : Nat) => pC l k)) l (l.length : Int) (j : Int) (dY b l) = _
  unfold iB
  rcases am j l.length with hlt | hge
  ·rw [if_pos (af (by omega)), if_pos (dc hlt), ai]
   show ((ua n l (l.getD j eK).1 (l.getD j eK).2.1 (l.getD j eK).2.2 (dY b l) 0).bind _) = _
   rw [MC n hn0 hn h, ae, if_pos (by rw [bj, ce, af (show (j + 1) * 8 ≤ 140737488355328 by omega)]; rfl), di (by omega)]
   refine hF _ _ ⟨j + 1, ?_, by omega, by omega, rfl⟩
   rw [List.range_succ, ct]
   rfl
  ·have : j = l.length := by omega
   subst this
   rw [if_neg (by simp)]
   rfl
end Go.Proofs.Dk
