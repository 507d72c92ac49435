/- A part of the proofs: Plain: the stacks of a row, by the program, on. -/
import Derived.Test.YtofeifhecboinaaGreatMB4
set_option linter.unusedVariables false
set_option linter.unusedSimpArgs false
noncomputable section
namespace Go.Proofs.Dk
open Go Go.IntKind
set_option maxRecDepth 100000
structure Fine (l : List cY) (m h : List Int) : Prop where
 nest : Nest l m h
 closed : Closed l m
 ends : ∀ j, j < l.length → uF l j = true
 jumps : ∀ j, j < l.length → jU l h j = true
theorem nC {l : List cY} (h : eK l = 0) : Fine l (dq l).1 (dq l).2.1 := by
 have hs := jo h
 unfold eK at h
 rw [if_neg (by simpa using hs)] at h
 split at h
 ·rename_i h1
  split at h
  ·rename_i h2
   exact ⟨nA hs, lv hs, fun j hj => allF_iff.1 h1 j (ao _) (by omega), fun j hj => allF_iff.1 h2 j (ao _) (by omega)⟩
  ·cases h
 ·cases h
theorem Fine.len {l : List cY} {m h : List Int} (hF : Fine l m h) : 0 < l.length ∧ l.length ≤ 200 := ⟨(jd hF.nest.row).1, (jd hF.nest.row).2.1⟩
theorem Fine.right {l : List cY} {m h : List Int} (hF : Fine l m h) {i : Nat} (hi : i < l.length) : dH (l.getD i (0, 0, 0)) = true := (jd hF.nest.row).2.2 i hi
theorem Fine.succ {l : List cY} {m h : List Int} (hF : Fine l m h) {i : Nat} (hi : i < l.length) (h : dd l i ≠ 25) : i + 1 < l.length := by
 have h1 := hF.ends i hi
 unfold uF at h1
 have h2 : ((l.getD i (0, 0, 0)).1 == 25) = false := by rw [aP]; exact h
 rw [h2] at h1
 have h3 : ((i : Int) == ((l.length - 1 : Nat) : Int)) = false := by
  cases h4 : ((i : Int) == ((l.length - 1 : Nat) : Int))
  ·rfl
  ·rw [h4] at h1; cases h1
 rw [aP] at h3
 omega
theorem Fine.last {l : List cY} {m h : List Int} (hF : Fine l m h) : dd l (l.length - 1) = 25 := by
 have h1 := hF.ends (l.length - 1) (by have := hF.len; omega)
 unfold uF at h1
 have h3 : (((l.length - 1 : Nat) : Int) == ((l.length - 1 : Nat) : Int)) = true := by simp
 rw [h3] at h1
 cases h4 : ((l.getD (l.length - 1) (0, 0, 0)).1 == 25)
 ·rw [h4] at h1; cases h1
 ·exact eq_of_beq h4
theorem Fine.jump {l : List cY} {m h : List Int} (hF : Fine l m h) {i : Nat} (hi : i < l.length) (hj : dd l i = 19 ∨ dd l i = 20) : dr l i < l.length ∧ gx l m (dr l i) = gx l m i := by
 have h1 := hF.jumps i hi
 unfold jU at h1
 rw [if_pos hj] at h1
 rw [am, aw, af] at h1
 refine ⟨h1.1, ?_⟩
 rw [← hF.nest.home i hi, ← hF.nest.home _ h1.1]
 exact h1.2
theorem Fine.next {l : List cY} {m h : List Int} (hF : Fine l m h) {i : Nat} (hi : i < l.length) : ∀ k ∈ fd l i, k < l.length := by
 intro k hk
 unfold fd at hk
 split at hk
 ·rename_i h1
  rw [aC] at hk
  subst hk
  exact (hF.jump hi (.inl h1)).1
 ·split at hk
  ·rename_i h1 h2
   rw [aA, aC] at hk
   rcases hk with rfl | rfl
   ·exact hF.succ hi (by omega)
   ·exact (hF.jump hi (.inr h2)).1
  ·split at hk
   ·cases hk
   ·rename_i h3
    rw [aC] at hk
    subst hk
    exact hF.succ hi h3
theorem El {l : List cY} {t : ByteArray} (ht : t.size ≤ 16) : ∀ (ks : List Nat) {f : f5}, FlowI l f → FlowI l (ks.foldl (fun f k => gN k t f) f)
 | [], f, h => h
 | k :: ks, f, h => El ht ks (Ek h k ht)
theorem Fg {l : List cY} {m : List Int} {i : Nat} {f f' : f5} (h : FlowI l f) (hs : fw l m i f = .inr f') : FlowI l f' := by
 unfold fw at hs
 split at hs
 ·cases hs
 ·split at hs
  ·cases hs
  ·split at hs
   ·cases hs
   ·split at hs
    ·cases hs
    ·cases hs
     exact El (zn _ _) _ h
theorem Fh (n : Nat) (hn : 3 < n) (hn2 : n < 1000000) {l : List cY} {m h : List Int} (hF : Fine l m h) (F : ((List Int) × (List (Int × (Int × Int))) × Int × Int × (List ByteArray) × (List Bool) × (List Bool)) → Option (((((List ByteArray) × Int × Unit) × (((List ByteArray) × (List Bool) × (List Bool) × Unit) × Unit)) ⊕ (Unit × (((List ByteArray) × (List Bool) × (List Bool) × Unit) × Unit))))) {f : f5} (hf : FlowI l f) {i : Nat} (hi : i < l.length) :
  mE n F m l (l.length : Int) (i : Int) f.1 f.2.1 f.2.2 = match fw l m i f with
   | .inl e => some (.inl (([], e, ()), ((f.1, f.2.1, f.2.2, ()), ())))
   | .inr f' => F (m, l, (l.length : Int), ((i + 1 : Nat) : Int), f'.1, f'.2.1, f'.2.2) := by
 obtain ⟨l1, l2⟩ := hF.len
 have ha := hf.a
 have hb := hf.b
 have hc := hf.c
 have hr := hF.right hi
 have hm : dd l i = 22 → ∃ j : Nat, m.getD i 0 = (j : Int) ∧ j < l.length := fun h22 => by
  obtain ⟨k, k1, k2, _⟩ := hF.closed.cl i hi (.inl h22)
  exact ⟨k, k1, by omega⟩
 have hnx := hF.next hi
 have hjx := fun hj => (hF.jump hi hj).1
 have hjw := fun hj => nK (by omega) hi hr hj
 unfold mE Dz fw
 simp only [ai]
 rw [if_pos (ag (by omega)), if_pos (dc hi), if_pos (dc (by omega)), if_pos (dc (by omega)), di (by omega)]
 rcases bD (f.2.1.getD i false) with h1 | h1
 ·rw [h1, if_neg (show ¬ (!true) = true by decide), if_neg (show ¬ true = false by decide), if_pos (dc (by omega))]
  rcases bD (f.2.2.getD i false) with h2 | h2
  ·rw [h2, if_pos rfl, if_pos rfl]
   rfl
  ·rw [h2, if_neg (show ¬ false = true by decide), if_neg (show ¬ false = true by decide)]
   have key : (gz (l.getD i (0, 0, 0)) (f.1.getD i ByteArray.empty)).1.size ≤ 16 := zn _ _
   have tail : ((iz n ((l.getD i (0, 0, 0)).1, ((l.getD i (0, 0, 0)).2.1, (l.getD i (0, 0, 0)).2.2)) (f.1.getD i ByteArray.empty)).bind fun y19 => (if (y19.2 != 0) then (if (y19.2 != 0) then (some (.inl (([], y19.2, ()), ((f.1, f.2.1, f.2.2, ()), ())))) else (F (m, l, (l.length : Int), ((i + 1 : Nat) : Int), f.1, f.2.1, f.2.2))) else ((yF n (i : Int) y19.1 f.1 f.2.1 f.2.2 (l.getD i (0, 0, 0)).1 (l.getD i (0, 0, 0)).2.1 (l.getD i (0, 0, 0)).2.2).bind fun y20 => (if (y20.2.2.2.2.2.1 == 19) then ((jE n (wrap .i64 ((wrap .i64 (y20.1 + 1)) + y20.2.2.2.2.2.2.1)) y20.2.1 y20.2.2.1 y20.2.2.2.1 y20.2.2.2.2.1).bind fun y21 => (if (decide (0 ≤ y21.1) && decide (y21.1 < (y21.2.2.2.1.length : Int))) then (if (decide (0 ≤ y21.1) && decide (y21.1 < (y21.2.2.1.length : Int))) then (F (m, l, (l.length : Int), ((i + 1 : Nat) : Int), (y21.2.2.1.set y21.1.toNat y21.2.1), (y21.2.2.2.1.set y21.1.toNat true), y21.2.2.2.2)) else none) else none)) else (if (y20.2.2.2.2.2.1 == 20) then ((jE n (wrap .i64 ((wrap .i64 (y20.1 + 1)) + y20.2.2.2.2.2.2.1)) y20.2.1 y20.2.2.1 y20.2.2.2.1 y20.2.2.2.2.1).bind fun y22 => (if (decide (0 ≤ y22.1) && decide (y22.1 < (y22.2.2.2.1.length : Int))) then (if (decide (0 ≤ y22.1) && decide (y22.1 < (y22.2.2.1.length : Int))) then (F (m, l, (l.length : Int), ((i + 1 : Nat) : Int), (y22.2.2.1.set y22.1.toNat y22.2.1), (y22.2.2.2.1.set y22.1.toNat true), y22.2.2.2.2)) else none) else none)) else (F (m, l, (l.length : Int), ((i + 1 : Nat) : Int), y20.2.2.1, y20.2.2.2.1, y20.2.2.2.2.1))))))) = match (if (gz (l.getD i (0, 0, 0)) (f.1.getD i ByteArray.empty)).2 ≠ 0 then Sum.inl (gz (l.getD i (0, 0, 0)) (f.1.getD i ByteArray.empty)).2
     else Sum.inr ((fd l i).foldl (fun g k => gN k (gz (l.getD i (0, 0, 0)) (f.1.getD i ByteArray.empty)).1 g) f) : Int ⊕ f5) with
    | .inl e => some (.inl (([], e, ()), ((f.1, f.2.1, f.2.2, ()), ())))
    | .inr f' => F (m, l, (l.length : Int), ((i + 1 : Nat) : Int), f'.1, f'.2.1, f'.2.2) := by
    have hA := Mi n hn hn2 (o := (l.getD i (0, 0, 0)).1) (A := (l.getD i (0, 0, 0)).2.1) (B := (l.getD i (0, 0, 0)).2.2) hr (hf.s i)
    rw [hA, ae]
    have e0 : ((l.getD i (0, 0, 0)).1, (l.getD i (0, 0, 0)).2.1, (l.getD i (0, 0, 0)).2.2) = l.getD i (0, 0, 0) := rfl
    rw [e0]
    generalize gz (l.getD i (0, 0, 0)) (f.1.getD i ByteArray.empty) = te at key ⊢
    obtain ⟨t, e⟩ := te
    simp only
    by_cases he : e = 0
    ·subst he
     rw [if_neg (by decide), if_neg (by decide)]
     unfold yF
     rw [di (by omega)]
     by_cases h19 : (l.getD i (0, 0, 0)).1 = 19
     ·have hj := hjw (.inl h19)
      have nx : fd l i = [dr l i] := by unfold fd; rw [if_pos h19]
      rw [nx, h19, if_neg (by decide), ae]
      simp only
      rw [di (by omega), hj, if_pos (show ((19 : Int) == 19) = true from rfl)]
      exact md n hf (hjx (.inl h19)) t fun a b c d e => F (m, l, (l.length : Int), ((i + 1 : Nat) : Int), c, d, e)
     ·rw [if_pos (aj.2 h19)]
      have b19 : ¬ ((l.getD i (0, 0, 0)).1 == 19) = true := by simpa only [af] using h19
      by_cases h25 : (l.getD i (0, 0, 0)).1 = 25
      ·have nx : fd l i = [] := by unfold fd dd; rw [h25]; rfl
       rw [nx, h25, if_neg (by decide), ae]
       rfl
      ·have hs1 := hF.succ hi h25
       rw [if_pos (aj.2 h25), md n hf hs1 t fun a b c d e => some ((i : Int), t, c, d, e, (l.getD i (0, 0, 0)).1, (l.getD i (0, 0, 0)).2.1, (l.getD i (0, 0, 0)).2.2), ae]
       simp only
       rw [di (by omega), if_neg b19]
       have hf1 := Ek hf (i + 1) key
       by_cases h20 : (l.getD i (0, 0, 0)).1 = 20
       ·have nx : fd l i = [i + 1, dr l i] := by unfold fd; rw [if_neg h19, if_pos h20]
        rw [nx, hjw (.inr h20), h20, if_pos (show ((20 : Int) == 20) = true from rfl)]
        exact md n hf1 (hjx (.inr h20)) t fun a b c d e => F (m, l, (l.length : Int), ((i + 1 : Nat) : Int), c, d, e)
       ·have nx : fd l i = [i + 1] := by unfold fd; rw [if_neg h19, if_neg h20, if_neg h25]
        rw [nx, if_neg (show ¬ ((l.getD i (0, 0, 0)).1 == 20) = true by simpa only [af] using h20)]
        rfl
    ·rw [if_pos (aj.2 he), if_pos (aj.2 he), if_pos he]
   by_cases h22 : (l.getD i (0, 0, 0)).1 = 22
   ·obtain ⟨j, j1, j2⟩ := hm h22
    rw [if_pos (show ((l.getD i (0, 0, 0)).1 == 22) = true by simpa only [af] using h22), if_pos (dc (by rw [hF.nest.hm]; exact hi))]
    simp only [j1, ai]
    rw [if_pos (dc (show j < f.1.length by omega))]
    rcases bD (BJ (f.1.getD j ByteArray.empty) (f.1.getD i ByteArray.empty)) with h3 | h3
    ·rw [if_pos (show dd l i = 22 ∧ BJ (f.1.getD j ByteArray.empty) (f.1.getD i ByteArray.empty) = true from ⟨h22, h3⟩)]
     unfold BJ at h3
     rw [h3, if_pos rfl]
     rfl
    ·rw [if_neg (show ¬ (dd l i = 22 ∧ BJ (f.1.getD j ByteArray.empty) (f.1.getD i ByteArray.empty) = true) from fun h => by rw [h3] at h; cases h.2)]
     unfold BJ at h3
     rw [h3, if_neg (by decide)]
     exact tail
   ·rw [if_neg (show ¬ ((l.getD i (0, 0, 0)).1 == 22) = true by simpa only [af] using h22), if_neg (fun h => h22 h.1)]
    exact tail
 ·rw [h1, if_pos (show (!false) = true from rfl), if_pos rfl]
  rfl
def gj (l : List cY) (m : List Int) : Nat → Nat → f5 → Int ⊕ f5
 | 0, _, f => .inr f
 | r + 1, i, f => match fw l m i f with
  | .inl e => .inl e
  | .inr f => gj l m r (i + 1) f
theorem wl (n : Nat) (hn : 3 < n) (hn2 : n < 1000000) {l : List cY} {m h : List Int} (hF : Fine l m h) : ∀ (f i : Nat) {s : f5}, FlowI l s → i ≤ l.length → l.length < f + i → ∃ a b c d e,
  it (fun F => (dM (C_ q_)) (mE n F)) f (m, l, (l.length : Int), (i : Int), s.1, s.2.1, s.2.2) = match gj l m (l.length - i) i s with
   | .inl z => some (.inl (([], z, ()), ((a, b, c, ()), ())))
   | .inr s' => some (.inr ((), ((s'.1, d, e, ()), ())))
 | 0, i, s, hs, hi, hf => by omega
 | f + 1, i, s, hs, hi, hf => by
  have ih := fun {s : f5} => wl n hn hn2 hF f (i + 1) (s := s)
  show ∃ a b c d e, mE n (it _ f) m l (l.length : Int) (i : Int) s.1 s.2.1 s.2.2 = _
  generalize it (fun F => (dM (C_ q_)) (mE n F)) f = F at ih ⊢
  rcases ak i l.length with hlt | hge
  ·rw [Fh n hn hn2 hF F hs hlt, show l.length - i = (l.length - (i + 1)) + 1 by omega]
   simp only [gj]
   cases hq : fw l m i s with
   | inl e => exact ⟨s.1, s.2.1, s.2.2, [], [], rfl⟩
   | inr s' => exact ih (Fg hs hq) (by omega) (by omega)
  ·have : i = l.length := by omega
   subst this
   unfold mE
   rw [if_neg (by simp), bf]
   exact ⟨[], [], [], s.2.1, s.2.2, rfl⟩
def jW (l : List cY) : f5 := (List.replicate l.length ByteArray.empty, (List.replicate l.length false).set 0 true, List.replicate l.length false)
theorem Mj (l : List cY) : FlowI l (jW l) := ⟨by simp [jW], by simp [jW], by simp [jW], fun k => by
 unfold jW
 simp only [ar, bV]
 split <;> exact ao _⟩
def fg (l : List cY) : Int := if eK l ≠ 0 then eK l else match gj l (dq l).1 l.length 0 (jW l) with
 | .inl e => e
 | .inr _ => 0
theorem xH (n : Nat) (l : List cY) (hl : l.length < n) (hn : n < 1000000) : gT n l = some ((dq l).1, (dq l).2.2) := by
 unfold gT
 rw [vi n l hl hn]
 rfl
theorem BK (n : Nat) (l : List cY) (hl : l.length < n) (hn3 : 3 < n) (hn : n < 1000000) : ∃ o, yG n l = some (o, fg l) := by
 unfold yG fg
 rw [Ee n l hl hn, ae]
 by_cases hw : eK l = 0
 ·have hF := nC hw
  have hI := Mj l
  obtain ⟨l1, l2⟩ := hF.len
  obtain ⟨a, b, c, d, e, h⟩ := wl n hn3 hn hF n 0 hI (ao _) (by omega)
  have c1 : (decide (0 ≤ (l.length : Int)) && ((l.length : Int) == (l.length : Int)) && decide ((l.length : Int) * (16 : Int) ≤ 140737488355328) && decide (1 ≤ 16)) = true := by simp; omega
  have c2 : (decide (0 ≤ (l.length : Int)) && ((l.length : Int) == (l.length : Int)) && decide ((l.length : Int) * (1 : Int) ≤ 140737488355328) && decide (1 ≤ 1)) = true := by simp; omega
  rw [if_neg (fun h => (aj.1 h) hw), xH n l hl hn, ae, if_pos c1, if_pos c2, if_pos c2, if_neg (show ¬ (eK l ≠ 0) from fun h => h hw), ai]
  have hX : FlowI l (List.replicate l.length ByteArray.empty, List.replicate l.length false, List.replicate l.length false) := ⟨by simp, by simp, by simp, hI.s⟩
  have e0 : gN 0 (ByteArray.mk #[]) (List.replicate l.length ByteArray.empty, List.replicate l.length false, List.replicate l.length false) = jW l := by
   unfold gN jW
   have e1 : (ByteArray.mk #[]) = ByteArray.empty := rfl
   have e2 : (List.replicate l.length false).getD 0 false = false := by
    simp only [ar, bV]
    split <;> rfl
   simp only [e1, List.set_replicate_self, e2]
   rfl
  have h0 := md n hX l1 (ByteArray.mk #[]) fun a b c d e => (rE n ((dq l).1, l, (l.length : Int), 0, c, d, e)).bind fun y4 => ((Sum.elim (fun (z5 : (((List ByteArray) × Int × Unit) × (((List ByteArray) × (List Bool) × (List Bool) × Unit) × Unit))) => (some (z5.1.1, z5.1.2.1))) (fun (z6 : (Unit × (((List ByteArray) × (List Bool) × (List Bool) × Unit) × Unit))) => (some (z6.2.1.1, (0 : Int))))) y4)
  rw [e0] at h0
  unfold rE at h0 ⊢
  rw [bq] at h
  refine Exists.imp (fun o ho => h0.trans ho) ?_
  rw [show ((0 : Nat) : Int) = 0 from rfl] at h
  rw [h]
  cases hq : gj l (dq l).1 l.length 0 (jW l) with
  | inl z => exact ⟨[], rfl⟩
  | inr s' => exact ⟨s'.1, rfl⟩
 ·rw [if_pos (by simp only [aj, ne_eq]; exact hw), if_pos hw]
  exact ⟨_, rfl⟩
theorem set_same {c : List Bool} {q : Nat} {b : Bool} (h : c.getD q false = b) (hq : q < c.length) : c.set q b = c := by
 rw [ar, av hq, bp] at h
 subst h
 exact List.set_getElem_self hq
theorem vj {A B : Int} (h : dH (21, A, B) = true) : 1 ≤ A ∧ A ≤ 1000 := by
 have h1 := (fv 0 (21, A, B)).symm.trans (MN 0 A B)
 rw [h] at h1
 by_cases h2 : 1 ≤ A
 ·by_cases h3 : A ≤ 1000
  ·exact ⟨h2, h3⟩
  ·rw [if_pos (ag h2), if_neg (by simpa using h3)] at h1
   cases h1
 ·rw [if_neg (by simpa using h2)] at h1
  cases h1
def dm (a b : Int) : Int := if 1048577 < a + b then 1048577 else a + b
def f9 (w A : Int) : Int := if dm w 1 = 1048577 then 1048577 else dm 1 (A * dm w 1)
def mN (m : List Int) (i : Nat) : Nat := (m.getD i 0).toNat
def ep (W : Nat → Nat → Int) (l : List cY) (m : List Int) (i : Nat) : Int := if dd l i = 21 then f9 (W (i + 1) (mN m i)) (dJ l i) else 1
def eG (l : List cY) (m : List Int) (i : Nat) : List Nat := if dd l i = 21 then [mN m i + 1] else if dd l i = 19 then [dr l i] else if dd l i = 20 then [dr l i, i + 1] else [i + 1]
def et (b : Int → Int → Int) (D : Nat → Int) (k : Nat) (v : Int) : Nat → Int := fun j => if j = k then (if D k = -1 then v else b (D k) v) else D j
def en (b : Int → Int → Int) (W : Nat → Nat → Int) (l : List cY) (m : List Int) (i : Nat) (D : Nat → Int) : Nat → Int :=
 if D i = -1 then D else (eG l m i).foldl (fun g k => et b g k (dm (D i) (ep W l m i))) D
def eH (b : Int → Int → Int) (W : Nat → Nat → Int) (l : List cY) (m : List Int) : Nat → Nat → (Nat → Int) → Nat → Int
 | 0, _, D => D
 | r + 1, i, D => eH b W l m r (i + 1) (en b W l m i D)
def fe (a : Nat) : Nat → Int := fun j => if j = a then 0 else -1
def dY (b : Int → Int → Int) (l : List cY) (m : List Int) : Nat → Nat → Nat → Int
 | 0, _, _ => 0
 | f + 1, a, z => eH b (dY b l m f) l m (z - a) a (fe a) z
structure Reg (l : List cY) (m : List Int) (a z : Nat) : Prop where
 le : a ≤ z
 lt : z < l.length
 loop : ∀ i, a ≤ i → i < z → du l i = true → ∃ j : Nat, m.getD i 0 = (j : Int) ∧ i < j ∧ j < z
 jump : ∀ i, a ≤ i → i < z → dd l i = 19 ∨ dd l i = 20 → dr l i ≤ z
theorem Fine.reg {l : List cY} {m h : List Int} (hF : Fine l m h) {p : Nat} (hp : p < l.length) (ho : du l p = true) : Reg l m (p + 1) (mN m p) := by
 obtain ⟨j, j1, j2, j3⟩ := hF.nest.open_ p hp ho
 have hj : mN m p = j := by unfold mN; rw [j1]; rfl
 rw [hj]
 refine ⟨by omega, j3, fun i h1 h2 h3 => ?_, fun i h1 h2 h3 => ?_⟩
 ·obtain ⟨q, q1, q2, q3⟩ := hF.nest.open_ i (by omega) h3
  obtain ⟨q', e1, e2⟩ := hF.nest.cross p i j (by omega) h2 hp ho h3 j1
  exact ⟨q, q1, q2, by omega⟩
 ·obtain ⟨k1, k2⟩ := hF.jump (show i < l.length by omega) h3
  rcases ak j (dr l i) with hlt | hge
  ·exfalso
   have e1 : enc l m p i = true := by
    unfold enc
    rw [ho, j1]
    simp; omega
   have e2 : enc l m p (dr l i) = false := by
    unfold enc
    rw [ho, j1]
    simp; omega
   rcases nB l m i with hh | ⟨q, hh⟩
   ·rw [oA hh p] at e1; cases e1
   ·obtain ⟨_, _, x3⟩ := je hF.nest (show i < l.length by omega) hh
    obtain ⟨_, _, y3⟩ := je hF.nest k1 (k2.trans hh)
    rw [y3 p, ← x3 p, e1] at e2
    cases e2
  ·exact hge
theorem Fine.all {l : List cY} {m h : List Int} (hF : Fine l m h) : Reg l m 0 (l.length - 1) := by
 obtain ⟨l1, l2⟩ := hF.len
 refine ⟨ao _, by omega, fun i h1 h2 h3 => ?_, fun i h1 h2 h3 => ?_⟩
 ·obtain ⟨j, j1, j2, j3, j4, j5⟩ := hF.closed.op_ i (by omega) h3
  refine ⟨j, j1, j2, ?_⟩
  have : j ≠ l.length - 1 := fun e => by
   subst e
   have h5 := hF.last
   have h6 := Gf (l.getD i (0, 0, 0))
   unfold dd at h5
   rw [j4] at h5
   omega
  omega
 ·have := (hF.jump (show i < l.length by omega) h3).1
  omega
def StepsI (v : Int) : Prop := v = -1 ∨ (0 ≤ v ∧ v ≤ 1048577)
theorem fx {a b : Int} (h1 : 0 ≤ a) (h2 : 0 ≤ b) : 0 ≤ dm a b ∧ dm a b ≤ 1048577 := by
 unfold dm
 split <;> omega
theorem xI {w A : Int} (hw : StepsI w) (hA : 1 ≤ A ∧ A ≤ 1000) : 0 ≤ f9 w A ∧ f9 w A ≤ 1048577 := by
 have h1 : 0 ≤ dm w 1 ∧ dm w 1 ≤ 1048577 := by
  rcases hw with rfl | h
  ·decide
  ·exact fx h.1 (by decide)
 unfold f9
 split
 ·omega
 ·exact fx (by decide) (ct (by omega) h1.1)
def wm (b : Int → Int → Int) : Prop := ∀ x y, b x y = x ∨ b x y = y
theorem qE {b : Int → Int → Int} (hb : wm b) {D : Nat → Int} (hD : ∀ k, StepsI (D k)) (k : Nat) {v : Int} (hv : 0 ≤ v ∧ v ≤ 1048577) : ∀ j, StepsI (et b D k v j) := by
 intro j
 unfold et
 split
 ·split
  ·exact .inr hv
  ·rcases hb (D k) v with h | h
   ·rw [h]; exact hD k
   ·rw [h]; exact .inr hv
 ·exact hD j
theorem Gg {b : Int → Int → Int} (hb : wm b) {v : Int} (hv : 0 ≤ v ∧ v ≤ 1048577) : ∀ (ks : List Nat) {D : Nat → Int}, (∀ k, StepsI (D k)) → ∀ k, StepsI (ks.foldl (fun g k => et b g k v) D k)
 | [], D, hD => hD
 | k :: ks, D, hD => Gg hb hv ks (qE hb hD k hv)
theorem il {W : Nat → Nat → Int} {l : List cY} {m : List Int} {i : Nat} (hr : dH (l.getD i (0, 0, 0)) = true) (hW : dd l i = 21 → StepsI (W (i + 1) (mN m i))) : 0 ≤ ep W l m i ∧ ep W l m i ≤ 1048577 := by
 unfold ep
 split
 ·rename_i h
  refine xI (hW h) ?_
  unfold dJ
  unfold dd at h
  generalize l.getD i (0, 0, 0) = x at *
  obtain ⟨o, A, B⟩ := x
  simp only at h
  subst h
  exact vj hr
 ·omega
theorem fL {b : Int → Int → Int} (hb : wm b) {W : Nat → Nat → Int} {l : List cY} {m : List Int} {i : Nat} {D : Nat → Int} (hD : ∀ k, StepsI (D k)) (hr : dH (l.getD i (0, 0, 0)) = true) (hW : dd l i = 21 → StepsI (W (i + 1) (mN m i))) : ∀ k, StepsI (en b W l m i D k) := by
 unfold en
 split
 ·exact hD
 ·rename_i h
  have hi : 0 ≤ D i := by
   rcases hD i with h1 | h1
   ·exact absurd h1 h
   ·exact h1.1
  exact Gg hb (fx hi (il hr hW).1) _ hD
theorem vk {b : Int → Int → Int} (hb : wm b) {W : Nat → Nat → Int} {l : List cY} {m : List Int} (hr : ∀ i, i < l.length → dH (l.getD i (0, 0, 0)) = true) : ∀ (r i : Nat) {D : Nat → Int}, (∀ k, StepsI (D k)) → r + i ≤ l.length → (∀ k, i ≤ k → k < r + i → dd l k = 21 → StepsI (W (k + 1) (mN m k))) → ∀ k, StepsI (eH b W l m r i D k)
 | 0, i, D, hD, hi, hW => hD
 | r + 1, i, D, hD, hi, hW => vk hb hr r (i + 1) (fL hb hD (hr i (by omega)) (hW i (aq _) (by omega))) (by omega) fun k h1 h2 => hW k (by omega) (by omega)
theorem gB (a : Nat) : ∀ k, StepsI (fe a k) := fun k => by
 unfold fe
 split
 ·exact .inr (by decide)
 ·exact .inl rfl
theorem jp {b : Int → Int → Int} (hb : wm b) {l : List cY} {m h : List Int} (hF : Fine l m h) : ∀ (f : Nat) {a z : Nat}, Reg l m a z → StepsI (dY b l m f a z)
 | 0, a, z, hR => .inr (by show 0 ≤ (0 : Int) ∧ (0 : Int) ≤ 1048577; decide)
 | f + 1, a, z, hR => by
  have h1 := hR.le
  have h2 := hR.lt
  exact vk hb (fun i hi => hF.right hi) (z - a) a (gB a) (by omega) (fun k k1 k2 k3 => jp hb hF f (hF.reg (by omega) (isOpen_iff.2 (.inl k3)))) z
def bM (x y : Int) : Int := if y > x then y else x
def bL (x y : Int) : Int := if y < x then y else x
theorem eD : wm bM := fun x y => by
 unfold bM
 split
 ·exact .inr rfl
 ·exact .inl rfl
theorem uH : wm bL := fun x y => by
 unfold bL
 split
 ·exact .inr rfl
 ·exact .inl rfl
theorem im (n : Nat) {a b : Int} (h1 : -1 ≤ a) (h2 : a ≤ 1048577) (h3 : -1 ≤ b) (h4 : b ≤ 1048577) : d8 n a b = some (dm a b) := by
 unfold d8 dm
 rw [dA (by omega) (by omega)]
structure LD (d : List Int) (D : Nat → Int) (a z : Nat) : Prop where
 len : d.length = z - a + 1
 at_ : ∀ k, a ≤ k → k ≤ z → d.getD (k - a) 0 = D k
theorem LD.put {d : List Int} {D : Nat → Int} {a z : Nat} (h : LD d D a z) (b : Int → Int → Int) {k : Nat} (hk : a ≤ k) (hk2 : k ≤ z) (v : Int) : LD (d.set (k - a) (if d.getD (k - a) 0 = -1 then v else b (d.getD (k - a) 0) v)) (et b D k v) a z := by
 have hl := h.len
 refine ⟨by rw [aO, hl], fun j h1 h2 => ?_⟩
 rw [ed (by omega), h.at_ k hk hk2]
 unfold et
 by_cases e : j = k
 ·subst e
  rw [if_pos rfl, if_pos rfl]
 ·rw [if_neg (by omega), if_neg e, h.at_ j h1 h2]
theorem Em (n : Nat) (x y : Int) : e6 n x y = some (bM x y) := rfl
theorem mP (n : Nat) {d : List Int} {k : Nat} (hk : k < d.length) (v : Int) {R : Type} (K : List Int → Option R) :
  (if (decide (0 ≤ (k : Int)) && decide ((k : Int) < (d.length : Int))) = true then (if (d.getD k 0 != (-1)) = true then ((e6 n (d.getD k 0) v).bind fun y => if (decide (0 ≤ (k : Int)) && decide ((k : Int) < (d.length : Int))) = true then K (d.set k y) else none) else (if (decide (0 ≤ (k : Int)) && decide ((k : Int) < (d.length : Int))) = true then K (d.set k v) else none)) else none) = K (d.set k (if d.getD k 0 = -1 then v else bM (d.getD k 0) v)) := by
 simp only [if_pos (dc hk), Em, ae]
 by_cases h : d.getD k 0 = -1
 ·rw [if_neg (fun h2 => (aj.1 h2) h), if_pos h]
 ·rw [if_pos (aj.2 h), if_neg h]
theorem nD (n : Nat) (W : ((((List (Int × (Int × Int))) × (List Int)) × Int × Int × Unit) × Unit) → Option Int) {l : List cY} {m : List Int} (hl : l.length < 1000000) (hm : m.length = l.length) {i : Nat} (hi : i < l.length) {w : Int} (hj : m.getD i 0 = ((mN m i : Nat) : Int)) (hW : W (((l, m), ((i + 1 : Nat) : Int), ((mN m i : Nat) : Int), ()), ()) = some w) (hw : StepsI w) (hA : 1 ≤ dJ l i ∧ dJ l i ≤ 1000) : fb n W (l, m) (i : Int) = some (f9 w (dJ l i)) := by
 unfold fb f9
 simp only [ai, di (show i < 1000000 by omega), if_pos (dc hi), if_pos (dc (show i < m.length by omega)), hj, hW, ae]
 have hw2 : -1 ≤ w ∧ w ≤ 1048577 := by rcases hw with rfl | h <;> omega
 rw [im n hw2.1 hw2.2 (by decide) (by decide), ae]
 have h1 : 0 ≤ dm w 1 ∧ dm w 1 ≤ 1048577 := by
  rcases hw with rfl | h
  ·decide
  ·exact fx h.1 (by decide)
 generalize dm w 1 = x at h1 ⊢
 by_cases hx : x = 1048577
 ·rw [if_pos (by simpa only [af] using hx), if_pos hx]
 ·rw [if_neg (by simpa only [af] using hx), if_neg hx]
  unfold dJ at hA ⊢
  generalize (l.getD i (0, 0, 0)).2.1 = A at hA ⊢
  have hb : 0 ≤ A * x ∧ A * x ≤ 1000 * 1048577 := ⟨ct (by omega) h1.1, Int.mul_le_mul hA.2 h1.2 h1.1 (by decide)⟩
  rw [dA (e := A * x) (by omega) (by omega), dA (by omega) (by omega)]
  rfl
theorem Nc (n : Nat) (W : ((((List (Int × (Int × Int))) × (List Int)) × Int × Int × Unit) × Unit) → Option Int) {l : List cY} {m h : List Int} (hF : Fine l m h) {Wp : Nat → Nat → Int} {a z : Nat} (hR : Reg l m a z) {i : Nat} (hi : a ≤ i) (hi2 : i < z) (hW : dd l i = 21 → W (((l, m), ((i + 1 : Nat) : Int), ((mN m i : Nat) : Int), ()), ()) = some (Wp (i + 1) (mN m i)) ∧ StepsI (Wp (i + 1) (mN m i))) {d : List Int} {D : Nat → Int} (hL : LD d D a z) (hD : ∀ k, StepsI (D k)) (zz : Int) :
  ∃ d', LD d' (en bM Wp l m i D) a z ∧ yH n W zz (i : Int) l m (a : Int) d = some (zz, (i : Int), l, m, (a : Int), d') := by
 obtain ⟨l1, l2⟩ := hF.len
 have hlt := hR.lt
 have hdl := hL.len
 have hat := hL.at_ i hi (by omega)
 have hr := hF.right (show i < l.length by omega)
 have hm := hF.nest.hm
 unfold yH
 simp only [gA hi (show i < 1000000 by omega), ai, di (show i < 1000000 by omega), if_pos (dc (show i < l.length by omega)), if_pos (dc (show i < m.length by omega)), if_pos (dc (show i - a < d.length by omega)), gA (show a ≤ i + 1 by omega) (show i + 1 < 1000000 by omega), hat]
 by_cases hn : D i = -1
 ·refine ⟨d, ?_, ?_⟩
  ·unfold en
   rw [if_pos hn]
   exact hL
  ·rw [if_pos (by simpa only [af] using hn)]
 ·rw [if_neg (by simpa only [af] using hn)]
  have hDi : 0 ≤ D i ∧ D i ≤ 1048577 := by
   rcases hD i with h1 | h1
   ·exact absurd h1 hn
   ·exact h1
  by_cases h21 : (l.getD i (0, 0, 0)).1 = 21
  ·rw [if_pos (show ((l.getD i (0, 0, 0)).1 == 21) = true by simpa only [af] using h21)]
   obtain ⟨j, j1, j2, j3⟩ := hR.loop i hi hi2 (isOpen_iff.2 (.inl h21))
   have hj : mN m i = j := by unfold mN; rw [j1]; rfl
   have hA : 1 ≤ dJ l i ∧ dJ l i ≤ 1000 := by
    unfold dJ
    generalize l.getD i (0, 0, 0) = x at *
    obtain ⟨o, A, B⟩ := x
    simp only at h21
    subst h21
    exact vj hr
   obtain ⟨w1, w2⟩ := hW h21
   have hc : ep Wp l m i = f9 (Wp (i + 1) (mN m i)) (dJ l i) := by unfold ep; rw [if_pos h21]
   have hlo := xI w2 hA
   rw [nD n W (by omega) hm (by omega) (by rw [hj]; exact j1) w1 w2 hA, ae, ← hc]
   rw [← hc] at hlo
   rw [im n (by omega) hDi.2 (by omega) hlo.2, ae]
   simp only [j1, di (show j < 1000000 by omega), gA (show a ≤ j + 1 by omega) (show j + 1 < 1000000 by omega), ai]
   refine ⟨_, ?_, mP n (show j + 1 - a < d.length by omega) (dm (D i) (ep Wp l m i)) fun d' => some (zz, (i : Int), l, m, (a : Int), d')⟩
   have := hL.put bM (show a ≤ j + 1 by omega) (show j + 1 ≤ z by omega) (dm (D i) (ep Wp l m i))
   unfold en eG
   rw [if_neg hn, if_pos h21, hj]
   exact this
  ·rw [if_neg (show ¬ ((l.getD i (0, 0, 0)).1 == 21) = true by simpa only [af] using h21)]
   have hc : ep Wp l m i = 1 := by unfold ep; rw [if_neg h21]
   rw [im n (by omega) hDi.2 (by decide) (by decide)]
   simp only [ae]
   by_cases h19 : (l.getD i (0, 0, 0)).1 = 19
   ·rw [if_pos (show ((l.getD i (0, 0, 0)).1 == 19) = true by simpa only [af] using h19)]
    have hjt := hR.jump i hi hi2 (.inl h19)
    have hji : i < dr l i := by unfold dr; omega
    simp only [nK (show l.length < 1000000 by omega) (show i < l.length by omega) hr (.inl h19), gA (show a ≤ dr l i by omega) (show dr l i < 1000000 by omega), ai]
    refine ⟨_, ?_, mP n (show dr l i - a < d.length by omega) (dm (D i) 1) fun d' => some (zz, (i : Int), l, m, (a : Int), d')⟩
    have := hL.put bM (show a ≤ dr l i by omega) hjt (dm (D i) 1)
    unfold en eG
    rw [if_neg hn, if_neg h21, if_pos h19, hc]
    exact this
   ·rw [if_neg (show ¬ ((l.getD i (0, 0, 0)).1 == 19) = true by simpa only [af] using h19)]
    by_cases h20 : (l.getD i (0, 0, 0)).1 = 20
    ·rw [if_pos (show ((l.getD i (0, 0, 0)).1 == 20) = true by simpa only [af] using h20)]
     have hjt := hR.jump i hi hi2 (.inr h20)
     have hji : i < dr l i := by unfold dr; omega
     simp only [nK (show l.length < 1000000 by omega) (show i < l.length by omega) hr (.inr h20), gA (show a ≤ dr l i by omega) (show dr l i < 1000000 by omega), ai]
     have h1 := hL.put bM (show a ≤ dr l i by omega) hjt (dm (D i) 1)
     have h2 := h1.put bM (show a ≤ i + 1 by omega) (show i + 1 ≤ z by omega) (dm (D i) 1)
     refine ⟨_, ?_, (mP n (show dr l i - a < d.length by omega) (dm (D i) 1) fun d1 => (if (decide (0 ≤ ((i + 1 - a : Nat) : Int)) && decide (((i + 1 - a : Nat) : Int) < (d1.length : Int))) = true then (if (d1.getD (i + 1 - a) 0 != (-1)) = true then ((e6 n (d1.getD (i + 1 - a) 0) (dm (D i) 1)).bind fun y => if (decide (0 ≤ ((i + 1 - a : Nat) : Int)) && decide (((i + 1 - a : Nat) : Int) < (d1.length : Int))) = true then some (zz, (i : Int), l, m, (a : Int), d1.set (i + 1 - a) y) else none) else (if (decide (0 ≤ ((i + 1 - a : Nat) : Int)) && decide (((i + 1 - a : Nat) : Int) < (d1.length : Int))) = true then some (zz, (i : Int), l, m, (a : Int), d1.set (i + 1 - a) (dm (D i) 1)) else none)) else none)).trans (mP n (by rw [aO]; omega) (dm (D i) 1) fun d' => some (zz, (i : Int), l, m, (a : Int), d'))⟩
     unfold en eG
     rw [if_neg hn, if_neg h21, if_neg h19, if_pos h20, hc]
     exact h2
    ·rw [if_neg (show ¬ ((l.getD i (0, 0, 0)).1 == 20) = true by simpa only [af] using h20)]
     refine ⟨_, ?_, mP n (show i + 1 - a < d.length by omega) (dm (D i) 1) fun d' => some (zz, (i : Int), l, m, (a : Int), d')⟩
     have := hL.put bM (show a ≤ i + 1 by omega) (show i + 1 ≤ z by omega) (dm (D i) 1)
     unfold en eG
     rw [if_neg hn, if_neg h21, if_neg h19, if_neg h20, hc]
     exact this
theorem uI (n : Nat) (x y : Int) : eb n x y = some (bM x y) := rfl
theorem mQ (n : Nat) {d : List Int} {k : Nat} (hk : k < d.length) (v : Int) {R : Type} (K : List Int → Option R) :
  (if (decide (0 ≤ (k : Int)) && decide ((k : Int) < (d.length : Int))) = true then (if (d.getD k 0 != (-1)) = true then ((eb n (d.getD k 0) v).bind fun y => if (decide (0 ≤ (k : Int)) && decide ((k : Int) < (d.length : Int))) = true then K (d.set k y) else none) else (if (decide (0 ≤ (k : Int)) && decide ((k : Int) < (d.length : Int))) = true then K (d.set k v) else none)) else none) = K (d.set k (if d.getD k 0 = -1 then v else bM (d.getD k 0) v)) := by
 simp only [if_pos (dc hk), uI, ae]
 by_cases h : d.getD k 0 = -1
 ·rw [if_neg (fun h2 => (aj.1 h2) h), if_pos h]
 ·rw [if_pos (aj.2 h), if_neg h]
theorem pM (n : Nat) (W : ((((List (Int × (Int × Int))) × (List Int)) × Int × Int × Unit) × Unit) → Option Int) {l : List cY} {m : List Int} (hl : l.length < 1000000) (hm : m.length = l.length) {i : Nat} (hi : i < l.length) {w : Int} (hj : m.getD i 0 = ((mN m i : Nat) : Int)) (hW : W (((l, m), ((i + 1 : Nat) : Int), ((mN m i : Nat) : Int), ()), ()) = some w) (hw : StepsI w) (hA : 1 ≤ dJ l i ∧ dJ l i ≤ 1000) : fI n W (l, m) (i : Int) = some (f9 w (dJ l i)) := by
 unfold fI f9
 simp only [ai, di (show i < 1000000 by omega), if_pos (dc hi), if_pos (dc (show i < m.length by omega)), hj, hW, ae]
 have hw2 : -1 ≤ w ∧ w ≤ 1048577 := by rcases hw with rfl | h <;> omega
 rw [im n hw2.1 hw2.2 (by decide) (by decide), ae]
 have h1 : 0 ≤ dm w 1 ∧ dm w 1 ≤ 1048577 := by
  rcases hw with rfl | h
  ·decide
  ·exact fx h.1 (by decide)
 generalize dm w 1 = x at h1 ⊢
 by_cases hx : x = 1048577
 ·rw [if_pos (by simpa only [af] using hx), if_pos hx]
 ·rw [if_neg (by simpa only [af] using hx), if_neg hx]
  unfold dJ at hA ⊢
  generalize (l.getD i (0, 0, 0)).2.1 = A at hA ⊢
  have hb : 0 ≤ A * x ∧ A * x ≤ 1000 * 1048577 := ⟨ct (by omega) h1.1, Int.mul_le_mul hA.2 h1.2 h1.1 (by decide)⟩
  rw [dA (e := A * x) (by omega) (by omega), dA (by omega) (by omega)]
  rfl
theorem Nd (n : Nat) (W : ((((List (Int × (Int × Int))) × (List Int)) × Int × Int × Unit) × Unit) → Option Int) {l : List cY} {m h : List Int} (hF : Fine l m h) {Wp : Nat → Nat → Int} {a z : Nat} (hR : Reg l m a z) {i : Nat} (hi : a ≤ i) (hi2 : i < z) (hW : dd l i = 21 → W (((l, m), ((i + 1 : Nat) : Int), ((mN m i : Nat) : Int), ()), ()) = some (Wp (i + 1) (mN m i)) ∧ StepsI (Wp (i + 1) (mN m i))) {d : List Int} {D : Nat → Int} (hL : LD d D a z) (hD : ∀ k, StepsI (D k)) (zz : Int) :
  ∃ d', LD d' (en bM Wp l m i D) a z ∧ yL n W zz (i : Int) l m (a : Int) d = some (zz, (i : Int), l, m, (a : Int), d') := by
 obtain ⟨l1, l2⟩ := hF.len
 have hlt := hR.lt
 have hdl := hL.len
 have hat := hL.at_ i hi (by omega)
 have hr := hF.right (show i < l.length by omega)
 have hm := hF.nest.hm
 unfold yL
 simp only [gA hi (show i < 1000000 by omega), ai, di (show i < 1000000 by omega), if_pos (dc (show i < l.length by omega)), if_pos (dc (show i < m.length by omega)), if_pos (dc (show i - a < d.length by omega)), gA (show a ≤ i + 1 by omega) (show i + 1 < 1000000 by omega), hat]
 by_cases hn : D i = -1
 ·refine ⟨d, ?_, ?_⟩
  ·unfold en
   rw [if_pos hn]
   exact hL
  ·rw [if_pos (by simpa only [af] using hn)]
 ·rw [if_neg (by simpa only [af] using hn)]
  have hDi : 0 ≤ D i ∧ D i ≤ 1048577 := by
   rcases hD i with h1 | h1
   ·exact absurd h1 hn
   ·exact h1
  by_cases h21 : (l.getD i (0, 0, 0)).1 = 21
  ·rw [if_pos (show ((l.getD i (0, 0, 0)).1 == 21) = true by simpa only [af] using h21)]
   obtain ⟨j, j1, j2, j3⟩ := hR.loop i hi hi2 (isOpen_iff.2 (.inl h21))
   have hj : mN m i = j := by unfold mN; rw [j1]; rfl
   have hA : 1 ≤ dJ l i ∧ dJ l i ≤ 1000 := by
    unfold dJ
    generalize l.getD i (0, 0, 0) = x at *
    obtain ⟨o, A, B⟩ := x
    simp only at h21
    subst h21
    exact vj hr
   obtain ⟨w1, w2⟩ := hW h21
   have hc : ep Wp l m i = f9 (Wp (i + 1) (mN m i)) (dJ l i) := by unfold ep; rw [if_pos h21]
   have hlo := xI w2 hA
   rw [pM n W (by omega) hm (by omega) (by rw [hj]; exact j1) w1 w2 hA, ae, ← hc]
   rw [← hc] at hlo
   rw [im n (by omega) hDi.2 (by omega) hlo.2, ae]
   simp only [j1, di (show j < 1000000 by omega), gA (show a ≤ j + 1 by omega) (show j + 1 < 1000000 by omega), ai]
   refine ⟨_, ?_, mQ n (show j + 1 - a < d.length by omega) (dm (D i) (ep Wp l m i)) fun d' => some (zz, (i : Int), l, m, (a : Int), d')⟩
   have := hL.put bM (show a ≤ j + 1 by omega) (show j + 1 ≤ z by omega) (dm (D i) (ep Wp l m i))
   unfold en eG
   rw [if_neg hn, if_pos h21, hj]
   exact this
  ·rw [if_neg (show ¬ ((l.getD i (0, 0, 0)).1 == 21) = true by simpa only [af] using h21)]
   have hc : ep Wp l m i = 1 := by unfold ep; rw [if_neg h21]
   rw [im n (by omega) hDi.2 (by decide) (by decide)]
   simp only [ae]
   by_cases h19 : (l.getD i (0, 0, 0)).1 = 19
   ·rw [if_pos (show ((l.getD i (0, 0, 0)).1 == 19) = true by simpa only [af] using h19)]
    have hjt := hR.jump i hi hi2 (.inl h19)
    have hji : i < dr l i := by unfold dr; omega
    simp only [nK (show l.length < 1000000 by omega) (show i < l.length by omega) hr (.inl h19), gA (show a ≤ dr l i by omega) (show dr l i < 1000000 by omega), ai]
    refine ⟨_, ?_, mQ n (show dr l i - a < d.length by omega) (dm (D i) 1) fun d' => some (zz, (i : Int), l, m, (a : Int), d')⟩
    have := hL.put bM (show a ≤ dr l i by omega) hjt (dm (D i) 1)
    unfold en eG
    rw [if_neg hn, if_neg h21, if_pos h19, hc]
    exact this
   ·rw [if_neg (show ¬ ((l.getD i (0, 0, 0)).1 == 19) = true by simpa only [af] using h19)]
    by_cases h20 : (l.getD i (0, 0, 0)).1 = 20
    ·rw [if_pos (show ((l.getD i (0, 0, 0)).1 == 20) = true by simpa only [af] using h20)]
     have hjt := hR.jump i hi hi2 (.inr h20)
     have hji : i < dr l i := by unfold dr; omega
     simp only [nK (show l.length < 1000000 by omega) (show i < l.length by omega) hr (.inr h20), gA (show a ≤ dr l i by omega) (show dr l i < 1000000 by omega), ai]
     have h1 := hL.put bM (show a ≤ dr l i by omega) hjt (dm (D i) 1)
     have h2 := h1.put bM (show a ≤ i + 1 by omega) (show i + 1 ≤ z by omega) (dm (D i) 1)
     refine ⟨_, ?_, (mQ n (show dr l i - a < d.length by omega) (dm (D i) 1) fun d1 => (if (decide (0 ≤ ((i + 1 - a : Nat) : Int)) && decide (((i + 1 - a : Nat) : Int) < (d1.length : Int))) = true then (if (d1.getD (i + 1 - a) 0 != (-1)) = true then ((eb n (d1.getD (i + 1 - a) 0) (dm (D i) 1)).bind fun y => if (decide (0 ≤ ((i + 1 - a : Nat) : Int)) && decide (((i + 1 - a : Nat) : Int) < (d1.length : Int))) = true then some (zz, (i : Int), l, m, (a : Int), d1.set (i + 1 - a) y) else none) else (if (decide (0 ≤ ((i + 1 - a : Nat) : Int)) && decide (((i + 1 - a : Nat) : Int) < (d1.length : Int))) = true then some (zz, (i : Int), l, m, (a : Int), d1.set (i + 1 - a) (dm (D i) 1)) else none)) else none)).trans (mQ n (by rw [aO]; omega) (dm (D i) 1) fun d' => some (zz, (i : Int), l, m, (a : Int), d'))⟩
     unfold en eG
     rw [if_neg hn, if_neg h21, if_neg h19, if_pos h20, hc]
     exact h2
    ·rw [if_neg (show ¬ ((l.getD i (0, 0, 0)).1 == 20) = true by simpa only [af] using h20)]
     refine ⟨_, ?_, mQ n (show i + 1 - a < d.length by omega) (dm (D i) 1) fun d' => some (zz, (i : Int), l, m, (a : Int), d')⟩
     have := hL.put bM (show a ≤ i + 1 by omega) (show i + 1 ≤ z by omega) (dm (D i) 1)
     unfold en eG
     rw [if_neg hn, if_neg h21, if_neg h19, if_neg h20, hc]
     exact this
def pn (d : List Int) : Nat → Nat → List Int
 | 0, _ => d
 | r + 1, k => pn (d.set (k + 1) (-1)) r (k + 1)
theorem En : ∀ (r k : Nat) {d : List Int}, (pn d r k).length = d.length
 | 0, k, d => rfl
 | r + 1, k, d => (En r (k + 1)).trans (aO ..)
theorem Gh : ∀ (r k : Nat) {d : List Int} (j : Nat), k + r < d.length → (pn d r k).getD j 0 = if k < j ∧ j ≤ k + r then -1 else d.getD j 0
 | 0, k, d, j, h => by rw [if_neg (by omega)]; rfl
 | r + 1, k, d, j, h => by
  rw [show pn d (r + 1) k = pn (d.set (k + 1) (-1)) r (k + 1) from rfl, Gh r (k + 1) j (by rw [aO]; omega), ed (by omega)]
  by_cases h1 : k + 1 < j ∧ j ≤ k + 1 + r
  ·rw [if_pos h1, if_pos (by omega)]
  ·rw [if_neg h1]
   by_cases h2 : j = k + 1
   ·rw [if_pos h2, if_pos (by omega)]
   ·rw [if_neg h2, if_neg (by omega)]
theorem zo {a z : Nat} (h : a ≤ z) : LD (pn (List.replicate (z - a + 1) 0) (z - a) 0) (fe a) a z := by
 refine ⟨by rw [En, bo], fun k h1 h2 => ?_⟩
 rw [Gh _ _ _ (by rw [bo]; omega)]
 unfold fe
 by_cases e : k = a
 ·subst e
  rw [if_neg (by omega), if_pos rfl, bf]
  rfl
 ·rw [if_pos (by omega), if_neg e]
theorem Gi {a z : Nat} (h : a ≤ z) (hz : z < 1000000) : wrap .i64 (wrap .i64 ((z : Int) - (a : Int)) + 1) = ((z - a + 1 : Nat) : Int) := by
 rw [gA h hz, di (by omega)]
theorem BL (n : Nat) (W : ((((List (Int × (Int × Int))) × (List Int)) × Int × Int × Unit) × Unit) → Option Int) {l : List cY} {m : List Int} {zz aa : Int} {c : Nat} (hc : c < 1000000) : ∀ (f k : Nat) {d : List Int}, d.length = c + 1 → k ≤ c → c < f + k →
  it (fun F (x : Int × Int × Int × (List (Int × (Int × Int))) × (List Int) × Int × (List Int)) => p9 n W F x.1 x.2.1 x.2.2.1 x.2.2.2.1 x.2.2.2.2.1 x.2.2.2.2.2.1 x.2.2.2.2.2.2) f (zz, (c : Int), (k : Int), l, m, aa, d) = some (zz, l, m, aa, pn d (c - k) k)
 | 0, k, d, hd, hk, hf => by omega
 | f + 1, k, d, hd, hk, hf => by
  have ih := fun {d : List Int} => BL n W (l := l) (m := m) (zz := zz) (aa := aa) hc f (k + 1) (d := d)
  show p9 n W (it _ f) zz (c : Int) (k : Int) l m aa d = _
  generalize it (fun F (x : Int × Int × Int × (List (Int × (Int × Int))) × (List Int) × Int × (List Int)) => p9 n W F x.1 x.2.1 x.2.2.1 x.2.2.2.1 x.2.2.2.2.1 x.2.2.2.2.2.1 x.2.2.2.2.2.2) f = F at ih ⊢
  unfold p9
  rcases ak k c with hlt | hge
  ·rw [if_pos (ag (by omega)), di (by omega), if_pos (dc (by omega)), ai, ih (by rw [aO, hd]) (by omega) (by omega), show c - k = (c - (k + 1)) + 1 by omega]
   rfl
  ·have : k = c := by omega
   subst this
   rw [if_neg (by simp), bf]
   rfl
theorem Eo (n : Nat) (W : ((((List (Int × (Int × Int))) × (List Int)) × Int × Int × Unit) × Unit) → Option Int) {l : List cY} {m h : List Int} (hF : Fine l m h) {Wp : Nat → Nat → Int} {a z : Nat} (hR : Reg l m a z) (hW : ∀ i, a ≤ i → i < z → dd l i = 21 → W (((l, m), ((i + 1 : Nat) : Int), ((mN m i : Nat) : Int), ()), ()) = some (Wp (i + 1) (mN m i)) ∧ StepsI (Wp (i + 1) (mN m i))) : ∀ (f i : Nat) {d : List Int} {D : Nat → Int}, LD d D a z → (∀ k, StepsI (D k)) → a ≤ i → i ≤ z → z < f + i → ∃ d', LD d' (eH bM Wp l m (z - i) i D) a z ∧
  it (fun F (x : Int × Int × (List (Int × (Int × Int))) × (List Int) × Int × (List Int)) => qa n W F x.1 x.2.1 x.2.2.1 x.2.2.2.1 x.2.2.2.2.1 x.2.2.2.2.2) f ((z : Int), (i : Int), l, m, (a : Int), d) = some ((z : Int), l, m, (a : Int), d')
 | 0, i, d, D, hL, hD, h1, h2, hf => by omega
 | f + 1, i, d, D, hL, hD, h1, h2, hf => by
  have ih := fun {d : List Int} {D : Nat → Int} => Eo n W hF hR hW f (i + 1) (d := d) (D := D)
  show ∃ d', _ ∧ qa n W (it _ f) (z : Int) (i : Int) l m (a : Int) d = _
  generalize it (fun F (x : Int × Int × (List (Int × (Int × Int))) × (List Int) × Int × (List Int)) => qa n W F x.1 x.2.1 x.2.2.1 x.2.2.2.1 x.2.2.2.2.1 x.2.2.2.2.2) f = F at ih ⊢
  obtain ⟨l1, l2⟩ := hF.len
  have hlt := hR.lt
  unfold qa
  rcases ak i z with hiz | hge
  ·obtain ⟨d1, k1, k2⟩ := Nc n W hF hR h1 hiz (hW i h1 hiz) hL hD (z : Int)
   rw [if_pos (ag (by omega)), k2, ae]
   simp only
   rw [di (by omega), show z - i = (z - (i + 1)) + 1 by omega]
   exact ih k1 (fL eD hD (hF.right (by omega)) fun h => (hW i h1 hiz h).2) (by omega) (by omega) (by omega)
  ·have : i = z := by omega
   subst this
   rw [if_neg (by simp), bf]
   exact ⟨d, hL, rfl⟩
theorem PI (n : Nat) (W : ((((List (Int × (Int × Int))) × (List Int)) × Int × Int × Unit) × Unit) → Option Int) {l : List cY} {m h : List Int} (hF : Fine l m h) (hn : l.length < n) {Wp : Nat → Nat → Int} {a z : Nat} (hR : Reg l m a z) (hW : ∀ i, a ≤ i → i < z → dd l i = 21 → W (((l, m), ((i + 1 : Nat) : Int), ((mN m i : Nat) : Int), ()), ()) = some (Wp (i + 1) (mN m i)) ∧ StepsI (Wp (i + 1) (mN m i))) :
  rF n W (l, m) (a : Int) (z : Int) = some (eH bM Wp l m (z - a) a (fe a) z) := by
 obtain ⟨l1, l2⟩ := hF.len
 have hle := hR.le
 have hlt := hR.lt
 unfold rF w9 xc
 have c1 : (decide (0 ≤ ((z - a + 1 : Nat) : Int)) && (((z - a + 1 : Nat) : Int) == ((z - a + 1 : Nat) : Int)) && decide (((z - a + 1 : Nat) : Int) * (8 : Int) ≤ 140737488355328) && decide (1 ≤ 8)) = true := by simp; omega
 have c2 : (decide (0 ≤ 1) && decide (1 ≤ ((z - a + 1 : Nat) : Int))) = true := by simp; omega
 simp only [Gi hle (show z < 1000000 by omega), ai, bo, cu]
 have h0 := BL n W (l := l) (m := m) (zz := (z : Int)) (aa := (a : Int)) (c := z - a) (by omega) n 0 (d := List.replicate (z - a + 1) 0) (by rw [bo]) (ao _) (by omega)
 rw [show ((0 : Nat) : Int) = 0 from rfl, bq] at h0
 obtain ⟨d', k1, k2⟩ := Eo n W hF hR hW n a (zo hle) (gB a) (aq _) hle (by omega)
 rw [if_pos c1, if_pos c2, h0, ae]
 simp only
 rw [k2, ae]
 simp only [gA hle (show z < 1000000 by omega), ai]
 rw [if_pos (dc (by rw [k1.len]; omega)), k1.at_ z hle (aq _)]
theorem Gj (n : Nat) {l : List cY} {m h : List Int} (hF : Fine l m h) (hn : l.length < n) : ∀ (g : Nat) {a z : Nat}, Reg l m a z → z - a < g →
  it (fun (W : ((((List (Int × (Int × Int))) × (List Int)) × Int × Int × Unit) × Unit) → Option Int) x => rF n W x.1.1 x.1.2.1 x.1.2.2.1) g (((l, m), (a : Int), (z : Int), ()), ()) = some (dY bM l m g a z)
 | 0, a, z, hR, hg => by omega
 | g + 1, a, z, hR, hg => by
  have hlt := hR.lt
  have ih := fun {a z : Nat} => Gj n hF hn g (a := a) (z := z)
  show rF n (it _ g) (l, m) (a : Int) (z : Int) = _
  refine PI n _ hF hn hR fun i h1 h2 h3 => ?_
  have ho := isOpen_iff.2 (Or.inl (b := dd l i = 23) h3)
  have hRi := hF.reg (show i < l.length by omega) ho
  obtain ⟨j, j1, j2, j3⟩ := hR.loop i h1 h2 ho
  have hj : mN m i = j := by unfold mN; rw [j1]; rfl
  exact ⟨ih hRi (by omega), jp eD hF g hRi⟩
theorem Nf (n : Nat) {l : List cY} {m h : List Int} (hF : Fine l m h) (hn : l.length < n) {a z : Nat} (hR : Reg l m a z) : Hp n (l, m) (a : Int) (z : Int) = some (dY bM l m n a z) := by
 have := hR.lt
 exact Gj n hF hn n hR (by omega)
theorem BM (n : Nat) (W : ((((List (Int × (Int × Int))) × (List Int)) × Int × Int × Unit) × Unit) → Option Int) {l : List cY} {m : List Int} {zz aa : Int} {c : Nat} (hc : c < 1000000) : ∀ (f k : Nat) {d : List Int}, d.length = c + 1 → k ≤ c → c < f + k →
  it (fun F (x : Int × Int × Int × (List (Int × (Int × Int))) × (List Int) × Int × (List Int)) => qi n W F x.1 x.2.1 x.2.2.1 x.2.2.2.1 x.2.2.2.2.1 x.2.2.2.2.2.1 x.2.2.2.2.2.2) f (zz, (c : Int), (k : Int), l, m, aa, d) = some (zz, l, m, aa, pn d (c - k) k)
 | 0, k, d, hd, hk, hf => by omega
 | f + 1, k, d, hd, hk, hf => by
  have ih := fun {d : List Int} => BM n W (l := l) (m := m) (zz := zz) (aa := aa) hc f (k + 1) (d := d)
  show qi n W (it _ f) zz (c : Int) (k : Int) l m aa d = _
  generalize it (fun F (x : Int × Int × Int × (List (Int × (Int × Int))) × (List Int) × Int × (List Int)) => qi n W F x.1 x.2.1 x.2.2.1 x.2.2.2.1 x.2.2.2.2.1 x.2.2.2.2.2.1 x.2.2.2.2.2.2) f = F at ih ⊢
  unfold qi
  rcases ak k c with hlt | hge
  ·rw [if_pos (ag (by omega)), di (by omega), if_pos (dc (by omega)), ai, ih (by rw [aO, hd]) (by omega) (by omega), show c - k = (c - (k + 1)) + 1 by omega]
   rfl
  ·have : k = c := by omega
   subst this
   rw [if_neg (by simp), bf]
   rfl
theorem Ep (n : Nat) (W : ((((List (Int × (Int × Int))) × (List Int)) × Int × Int × Unit) × Unit) → Option Int) {l : List cY} {m h : List Int} (hF : Fine l m h) {Wp : Nat → Nat → Int} {a z : Nat} (hR : Reg l m a z) (hW : ∀ i, a ≤ i → i < z → dd l i = 21 → W (((l, m), ((i + 1 : Nat) : Int), ((mN m i : Nat) : Int), ()), ()) = some (Wp (i + 1) (mN m i)) ∧ StepsI (Wp (i + 1) (mN m i))) : ∀ (f i : Nat) {d : List Int} {D : Nat → Int}, LD d D a z → (∀ k, StepsI (D k)) → a ≤ i → i ≤ z → z < f + i → ∃ d', LD d' (eH bM Wp l m (z - i) i D) a z ∧
  it (fun F (x : Int × Int × (List (Int × (Int × Int))) × (List Int) × Int × (List Int)) => qj n W F x.1 x.2.1 x.2.2.1 x.2.2.2.1 x.2.2.2.2.1 x.2.2.2.2.2) f ((z : Int), (i : Int), l, m, (a : Int), d) = some ((z : Int), l, m, (a : Int), d')
 | 0, i, d, D, hL, hD, h1, h2, hf => by omega
 | f + 1, i, d, D, hL, hD, h1, h2, hf => by
  have ih := fun {d : List Int} {D : Nat → Int} => Ep n W hF hR hW f (i + 1) (d := d) (D := D)
  show ∃ d', _ ∧ qj n W (it _ f) (z : Int) (i : Int) l m (a : Int) d = _
  generalize it (fun F (x : Int × Int × (List (Int × (Int × Int))) × (List Int) × Int × (List Int)) => qj n W F x.1 x.2.1 x.2.2.1 x.2.2.2.1 x.2.2.2.2.1 x.2.2.2.2.2) f = F at ih ⊢
  obtain ⟨l1, l2⟩ := hF.len
  have hlt := hR.lt
  unfold qj
  rcases ak i z with hiz | hge
  ·obtain ⟨d1, k1, k2⟩ := Nd n W hF hR h1 hiz (hW i h1 hiz) hL hD (z : Int)
   rw [if_pos (ag (by omega)), k2, ae]
   simp only
   rw [di (by omega), show z - i = (z - (i + 1)) + 1 by omega]
   exact ih k1 (fL eD hD (hF.right (by omega)) fun h => (hW i h1 hiz h).2) (by omega) (by omega) (by omega)
  ·have : i = z := by omega
   subst this
   rw [if_neg (by simp), bf]
   exact ⟨d, hL, rfl⟩
theorem PJ (n : Nat) (W : ((((List (Int × (Int × Int))) × (List Int)) × Int × Int × Unit) × Unit) → Option Int) {l : List cY} {m h : List Int} (hF : Fine l m h) (hn : l.length < n) {Wp : Nat → Nat → Int} {a z : Nat} (hR : Reg l m a z) (hW : ∀ i, a ≤ i → i < z → dd l i = 21 → W (((l, m), ((i + 1 : Nat) : Int), ((mN m i : Nat) : Int), ()), ()) = some (Wp (i + 1) (mN m i)) ∧ StepsI (Wp (i + 1) (mN m i))) :
  rG n W (l, m) (a : Int) (z : Int) = some (eH bM Wp l m (z - a) a (fe a) z) := by
 obtain ⟨l1, l2⟩ := hF.len
 have hle := hR.le
 have hlt := hR.lt
 unfold rG xk xm
 have c1 : (decide (0 ≤ ((z - a + 1 : Nat) : Int)) && (((z - a + 1 : Nat) : Int) == ((z - a + 1 : Nat) : Int)) && decide (((z - a + 1 : Nat) : Int) * (8 : Int) ≤ 140737488355328) && decide (1 ≤ 8)) = true := by simp; omega
 have c2 : (decide (0 ≤ 1) && decide (1 ≤ ((z - a + 1 : Nat) : Int))) = true := by simp; omega
 simp only [Gi hle (show z < 1000000 by omega), ai, bo, cu]
 have h0 := BM n W (l := l) (m := m) (zz := (z : Int)) (aa := (a : Int)) (c := z - a) (by omega) n 0 (d := List.replicate (z - a + 1) 0) (by rw [bo]) (ao _) (by omega)
 rw [show ((0 : Nat) : Int) = 0 from rfl, bq] at h0
 obtain ⟨d', k1, k2⟩ := Ep n W hF hR hW n a (zo hle) (gB a) (aq _) hle (by omega)
 rw [if_pos c1, if_pos c2, h0, ae]
 simp only
 rw [k2, ae]
 simp only [gA hle (show z < 1000000 by omega), ai]
 rw [if_pos (dc (by rw [k1.len]; omega)), k1.at_ z hle (aq _)]
theorem Gk (n : Nat) {l : List cY} {m h : List Int} (hF : Fine l m h) (hn : l.length < n) : ∀ (g : Nat) {a z : Nat}, Reg l m a z → z - a < g →
  it (fun (W : ((((List (Int × (Int × Int))) × (List Int)) × Int × Int × Unit) × Unit) → Option Int) x => rG n W x.1.1 x.1.2.1 x.1.2.2.1) g (((l, m), (a : Int), (z : Int), ()), ()) = some (dY bM l m g a z)
 | 0, a, z, hR, hg => by omega
 | g + 1, a, z, hR, hg => by
  have hlt := hR.lt
  have ih := fun {a z : Nat} => Gk n hF hn g (a := a) (z := z)
  show rG n (it _ g) (l, m) (a : Int) (z : Int) = _
  refine PJ n _ hF hn hR fun i h1 h2 h3 => ?_
  have ho := isOpen_iff.2 (Or.inl (b := dd l i = 23) h3)
  have hRi := hF.reg (show i < l.length by omega) ho
  obtain ⟨j, j1, j2, j3⟩ := hR.loop i h1 h2 ho
  have hj : mN m i = j := by unfold mN; rw [j1]; rfl
  exact ⟨ih hRi (by omega), jp eD hF g hRi⟩
theorem Ng (n : Nat) {l : List cY} {m h : List Int} (hF : Fine l m h) (hn : l.length < n) {a z : Nat} (hR : Reg l m a z) : Hq n (l, m) (a : Int) (z : Int) = some (dY bM l m n a z) := by
 have := hR.lt
 exact Gk n hF hn n hR (by omega)
theorem Mk {P : Nat → Prop} : ∀ {n : Nat}, P n → ∃ k, k ≤ n ∧ P k ∧ ∀ j, j < k → ¬ P j := by
 intro n
 induction n using Nat.strongRecOn with
 | _ n ih =>
  intro hn
  by_cases h : ∃ j, j < n ∧ P j
  ·obtain ⟨j, j1, j2⟩ := h
   obtain ⟨k, k1, k2, k3⟩ := ih j j1 j2
   exact ⟨k, by omega, k2, k3⟩
  ·exact ⟨n, aq _, hn, fun j hj hp => h ⟨j, hj, hp⟩⟩
theorem Er {s : List Bool} {q k : Nat} (h : (s.set q true).getD k false = true) : s.getD k false = true ∨ k = q := by
 by_cases e : k = q
 ·exact .inr e
 ·refine .inl ?_
  rw [ar, List.getElem?_set_ne (fun h => e h.symm)] at h
  rw [ar]
  exact h
theorem zp {t : ByteArray} : ∀ (ks : List Nat) {f : f5} {k : Nat}, (ks.foldl (fun g q => gN q t g) f).2.1.getD k false = true → f.2.1.getD k false = true ∨ k ∈ ks
 | [], f, k, h => .inl h
 | q :: ks, f, k, h => by
  rcases zp ks h with h1 | h1
  ·rcases Er h1 with h2 | h2
   ·exact .inl h2
   ·exact .inr (by rw [h2]; exact aB)
  ·exact .inr (az _ h1)
theorem Co {l : List cY} {m : List Int} {i : Nat} {f f' : f5} (hs : fw l m i f = .inr f') : f.2.1.getD i false = true ∧ ∀ k, f'.2.1.getD k false = true → f.2.1.getD k false = true ∨ k ∈ fd l i := by
 unfold fw at hs
 split at hs
 ·cases hs
 ·rename_i h1
  refine ⟨by simpa using h1, fun k hk => ?_⟩
  split at hs
  ·cases hs
  ·split at hs
   ·cases hs
   ·split at hs
    ·cases hs
    ·cases hs
     exact zp _ hk
theorem uJ {l : List cY} {m : List Int} : ∀ (r i : Nat) {f f' : f5}, gj l m r i f = .inr f' → (∀ k, f.2.1.getD k false = true → k = 0 ∨ ∃ p, p < i ∧ k ∈ fd l p) → ∀ k, i ≤ k → k < i + r → k = 0 ∨ ∃ p, p < k ∧ k ∈ fd l p
 | 0, i, f, f', hs, hI, k, h1, h2 => by omega
 | r + 1, i, f, f', hs, hI, k, h1, h2 => by
  simp only [gj] at hs
  cases hq : fw l m i f with
  | inl e => rw [hq] at hs; cases hs
  | inr f1 =>
   rw [hq] at hs
   obtain ⟨a1, a2⟩ := Co hq
   by_cases e : k = i
   ·subst e
    exact hI k a1
   ·refine uJ r (i + 1) hs (fun k hk => ?_) k (by omega) (by omega)
    rcases a2 k hk with h3 | h3
    ·rcases hI k h3 with h4 | ⟨p, p1, p2⟩
     ·exact .inl h4
     ·exact .inr ⟨p, by omega, p2⟩
    ·exact .inr ⟨i, by omega, h3⟩
def xJ (l : List cY) : Prop := ∀ k, 0 < k → k < l.length → ∃ p, p < k ∧ k ∈ fd l p
theorem AF {l : List cY} (h : fg l = 0) : eK l = 0 ∧ xJ l := by
 unfold fg at h
 split at h
 ·rename_i hw
  exact absurd h hw
 ·rename_i hw
  have hw0 : eK l = 0 := by
   by_cases e : eK l = 0
   ·exact e
   ·exact absurd e hw
  refine ⟨hw0, fun k k1 k2 => ?_⟩
  cases hq : gj l (dq l).1 l.length 0 (jW l) with
  | inl e =>
   rw [hq] at h
   simp only at h
   subst h
   exfalso
   have key : ∀ (r i : Nat) {f : f5}, gj l (dq l).1 r i f ≠ .inl 0 := by
    intro r
    induction r with
    | zero => intro i f h; cases h
    | succ r ih =>
     intro i f h
     simp only [gj] at h
     cases hq : fw l (dq l).1 i f with
     | inr f1 => rw [hq] at h; exact ih (i + 1) h
     | inl e =>
      rw [hq] at h
      cases h
      unfold fw at hq
      split at hq
      ·cases hq
      ·split at hq
       ·cases hq
       ·split at hq
        ·cases hq
        ·split at hq
         ·rename_i h5
          exact h5 (Sum.inl.inj hq)
         ·cases hq
   exact key _ _ hq
  | inr f' =>
   have hI : ∀ k, (jW l).2.1.getD k false = true → k = 0 ∨ ∃ p, p < 0 ∧ k ∈ fd l p := fun k hk => by
    left
    unfold jW at hk
    rcases Er hk with h2 | h2
    ·rw [ar, bV] at h2
     split at h2 <;> cases h2
    ·exact h2
   rcases uJ l.length 0 hq hI k (ao _) (by omega) with h1 | h1
   ·omega
   ·exact h1
theorem Fine.jump_enc {l : List cY} {m h : List Int} (hF : Fine l m h) {i : Nat} (hi : i < l.length) (hj : dd l i = 19 ∨ dd l i = 20) (q : Nat) : enc l m q (dr l i) = enc l m q i := by
 obtain ⟨k1, k2⟩ := hF.jump hi hj
 rcases nB l m i with hh | ⟨p, hh⟩
 ·rw [oA hh q, oA (k2.trans hh) q]
 ·obtain ⟨_, _, x3⟩ := je hF.nest hi hh
  obtain ⟨_, _, y3⟩ := je hF.nest k1 (k2.trans hh)
  rw [x3 q, y3 q]
theorem nL {l : List cY} {m : List Int} {q k j : Nat} (ho : du l q = true) (hj : m.getD q 0 = (j : Int)) : enc l m q k = true ↔ q < k ∧ k ≤ j := by
 unfold enc
 rw [ho, hj]
 simp
def qF (l : List cY) (m : List Int) (a z k : Nat) : Prop := a ≤ k ∧ k ≤ z ∧ ∀ q, a ≤ q → q < k → dd l q = 21 → mN m q < k
structure Way (l : List cY) (m : List Int) (a z : Nat) : Prop where
 reg : Reg l m a z
 out : a = 0 ∨ ∃ p, a = p + 1 ∧ du l p = true ∧ m.getD p 0 = (z : Int)
theorem Fine.way {l : List cY} {m h : List Int} (hF : Fine l m h) {p : Nat} (hp : p < l.length) (ho : du l p = true) : Way l m (p + 1) (mN m p) := by
 refine ⟨hF.reg hp ho, .inr ⟨p, rfl, ho, ?_⟩⟩
 obtain ⟨j, j1, _⟩ := hF.nest.open_ p hp ho
 unfold mN
 rw [j1]
 rfl
theorem Fine.wayAll {l : List cY} {m h : List Int} (hF : Fine l m h) : Way l m 0 (l.length - 1) := ⟨hF.all, .inl rfl⟩
theorem vl {l : List cY} {m h : List Int} (hF : Fine l m h) (hS : xJ l) {a z : Nat} (hR : Way l m a z) {k : Nat} (hk : qF l m a z k) (hak : a < k) : ∃ p, qF l m a z p ∧ p < k ∧ k ∈ eG l m p := by
 obtain ⟨k1, k2, k3⟩ := hk
 have hlt := hR.reg.lt
 obtain ⟨p, p1, p2⟩ := hS k (by omega) (by omega)
 have hpl : p < l.length := by omega
 have hcase : k = p + 1 ∨ ((dd l p = 19 ∨ dd l p = 20) ∧ k = dr l p) := by
  unfold fd at p2
  split at p2
  ·rename_i h1
   rw [aC] at p2
   exact .inr ⟨.inl h1, p2⟩
  ·split at p2
   ·rename_i h1 h2
    rw [aA, aC] at p2
    rcases p2 with h3 | h3
    ·exact .inl h3
    ·exact .inr ⟨.inr h2, h3⟩
   ·split at p2
    ·cases p2
    ·rw [aC] at p2
     exact .inl p2
 have hap : a ≤ p := by
  rcases hcase with h1 | ⟨h1, h2⟩
  ·omega
  ·rcases hR.out with h3 | ⟨o, o1, o2, o3⟩
   ·omega
   ·rcases ak p a with h4 | h4
    ·exfalso
     have e1 : enc l m o k = true := (nL o2 o3).2 ⟨by omega, k2⟩
     rw [h2, hF.jump_enc hpl h1, nL o2 o3] at e1
     omega
    ·exact h4
 by_cases hin : qF l m a z p
 ·refine ⟨p, hin, p1, ?_⟩
  unfold fd at p2
  unfold eG
  by_cases h21 : dd l p = 21
  ·exfalso
   have hkp : k = p + 1 := by
    rcases hcase with h1 | ⟨h1, _⟩
    ·exact h1
    ·omega
   have := k3 p hap (by omega) h21
   obtain ⟨j, j1, j2, j3⟩ := hF.nest.open_ p hpl (isOpen_iff.2 (.inl h21))
   unfold mN at this
   rw [j1] at this
   have e : ((j : Int)).toNat = j := rfl
   omega
  ·rw [if_neg h21]
   by_cases h19 : dd l p = 19
   ·rw [if_pos h19] at p2 ⊢
    exact p2
   ·rw [if_neg h19] at p2 ⊢
    by_cases h20 : dd l p = 20
    ·rw [if_pos h20] at p2 ⊢
     rw [aA, aC] at p2 ⊢
     exact p2.symm
    ·rw [if_neg h20] at p2 ⊢
     split at p2
     ·cases p2
     ·exact p2
 ·have : ∃ q, a ≤ q ∧ q < p ∧ dd l q = 21 ∧ p ≤ mN m q := by
   apply cG
   intro hno
   refine hin ⟨hap, by omega, fun q q1 q2 q3 => ?_⟩
   rcases ak (mN m q) p with h1 | h1
   ·exact h1
   ·exact absurd ⟨q, q1, q2, q3, h1⟩ hno
  obtain ⟨q0, hq0⟩ := this
  obtain ⟨q, q1, ⟨q2, q3, q4, q5⟩, q6⟩ := Mk (P := fun q => a ≤ q ∧ q < p ∧ dd l q = 21 ∧ p ≤ mN m q) hq0
  have hqo : du l q = true := isOpen_iff.2 (.inl q4)
  obtain ⟨j, j1, j2, j3⟩ := hF.nest.open_ q (by omega) hqo
  have hj : mN m q = j := by unfold mN; rw [j1]; rfl
  rw [hj] at q5
  have hqk := k3 q q2 (by omega) q4
  rw [hj] at hqk
  refine ⟨q, ⟨q2, by omega, fun q' a1 a2 a3 => ?_⟩, by omega, ?_⟩
  ·rcases ak (mN m q') q with h1 | h1
   ·exact h1
   ·exfalso
    have ho' : du l q' = true := isOpen_iff.2 (.inl a3)
    obtain ⟨j', e1, e2, e3, e4, e5⟩ := hF.closed.op_ q' (by omega) ho'
    have hj' : mN m q' = j' := by unfold mN; rw [e1]; rfl
    rw [hj'] at h1
    have hne : j' ≠ q := fun e => by
     subst e
     rw [BH e4] at hqo
     cases hqo
    obtain ⟨x, x1, x2⟩ := hF.nest.cross q' q j' a2 (by omega) (by omega) ho' hqo e1
    have : (x : Int) = (j : Int) := x1.symm.trans j1
    exact q6 q' a2 ⟨a1, by omega, a3, by rw [hj']; omega⟩
  ·rcases hcase with h1 | ⟨h1, h2⟩
   ·unfold eG
    rw [if_pos q4, hj, aC]
    omega
   ·exfalso
    have e1 : enc l m q p = true := (nL hqo j1).2 ⟨q3, q5⟩
    rw [← hF.jump_enc hpl h1, ← h2, nL hqo j1] at e1
    omega
theorem uK {b : Int → Int → Int} (hb : wm b) {v : Int} (hv : v ≠ -1) : ∀ (ks : List Nat) {D : Nat → Int} {k : Nat}, D k ≠ -1 ∨ k ∈ ks → ks.foldl (fun g k => et b g k v) D k ≠ -1
 | [], D, k, h => h.elim id fun h => by cases h
 | q :: ks, D, k, h => by
  refine uK hb hv ks (D := et b D q v) ?_
  unfold et
  by_cases e : k = q
  ·left
   rw [if_pos e]
   split
   ·exact hv
   ·rename_i h1
    rcases hb (D q) v with h2 | h2 <;> rw [h2]
    ·exact h1
    ·exact hv
  ·rw [if_neg e]
   rcases h with h | h
   ·exact .inl h
   ·rcases aA.1 h with h | h
    ·exact absurd h e
    ·exact .inr h
theorem BN {b : Int → Int → Int} (hb : wm b) {W : Nat → Nat → Int} {l : List cY} {m h : List Int} (hF : Fine l m h) (hS : xJ l) {a z : Nat} (hR : Way l m a z) (hW : ∀ i, a ≤ i → i < z → dd l i = 21 → StepsI (W (i + 1) (mN m i))) : ∀ (r i : Nat) {D : Nat → Int}, (∀ k, StepsI (D k)) → a ≤ i → i + r = z → (∀ k, qF l m a z k → k = a ∨ (∃ p, qF l m a z p ∧ p < i ∧ k ∈ eG l m p) → D k ≠ -1) → ∀ k, qF l m a z k → eH b W l m r i D k ≠ -1
 | 0, i, D, hD, hi, hz, hI, k, hk => by
  refine hI k hk ?_
  by_cases e : k = a
  ·exact .inl e
  ·obtain ⟨p, p1, p2, p3⟩ := vl hF hS hR hk (by have := hk.1; omega)
   exact .inr ⟨p, p1, by have := hk.2.1; omega, p3⟩
 | r + 1, i, D, hD, hi, hz, hI, k, hk => by
  have hlt := hR.reg.lt
  have hWi := hW i hi (by omega)
  have hr := hF.right (show i < l.length by omega)
  refine BN hb hF hS hR hW r (i + 1) (fL hb hD hr hWi) (by omega) (by omega) (fun j hj hp => ?_) k hk
  have old : D j ≠ -1 → en b W l m i D j ≠ -1 := fun h => by
   unfold en
   split
   ·exact h
   ·rename_i h1
    have hDi : 0 ≤ D i := by
     rcases hD i with h2 | h2
     ·exact absurd h2 h1
     ·exact h2.1
    have := fx hDi (il hr hWi).1
    exact uK hb (by omega) _ (.inl h)
  rcases hp with h1 | ⟨p, p1, p2, p3⟩
  ·exact old (hI j hj (.inl h1))
  ·by_cases e : p = i
   ·subst e
    have hDp : D p ≠ -1 := by
     refine hI p p1 ?_
     by_cases e : p = a
     ·exact .inl e
     ·obtain ⟨p', a1, a2, a3⟩ := vl hF hS hR p1 (by omega)
      exact .inr ⟨p', a1, a2, a3⟩
    have hDp0 : 0 ≤ D p := by
     rcases hD p with h2 | h2
     ·exact absurd h2 hDp
     ·exact h2.1
    unfold en
    rw [if_neg hDp]
    have := fx hDp0 (il hr hWi).1
    exact uK hb (by omega) _ (.inr p3)
   ·exact old (hI j hj (.inr ⟨p, p1, by omega, p3⟩))
theorem Hz {l : List cY} {m h : List Int} {a z : Nat} (hR : Way l m a z) : qF l m a z z := by
 refine ⟨hR.reg.le, aq _, fun q h1 h2 h3 => ?_⟩
 obtain ⟨j, j1, j2, j3⟩ := hR.reg.loop q h1 h2 (isOpen_iff.2 (.inl h3))
 unfold mN
 rw [j1]
 exact j3
theorem kA {b : Int → Int → Int} (hb : wm b) {l : List cY} {m h : List Int} (hF : Fine l m h) (hS : xJ l) (f : Nat) {a z : Nat} (hR : Way l m a z) : 0 ≤ dY b l m f a z ∧ dY b l m f a z ≤ 1048577 := by
 have h0 := jp hb hF f hR.reg
 have hlt := hR.reg.lt
 have hle := hR.reg.le
 cases f with
 | zero => exact ⟨aZ _, by show (0 : Int) ≤ 1048577; decide⟩
 | succ f =>
  have h1 : dY b l m (f + 1) a z ≠ -1 := by
   refine BN hb hF hS hR (fun i i1 i2 i3 => jp hb hF f (hF.reg (by omega) (isOpen_iff.2 (.inl i3)))) (z - a) a (gB a) (aq _) (by omega) (fun k hk hp => ?_) z (Hz (h := h) hR)
   rcases hp with e | ⟨p, p1, p2, _⟩
   ·subst e
    unfold fe
    rw [if_pos rfl]
    decide
   ·have := p1.1
    omega
  rcases h0 with h2 | h2
  ·exact absurd h2 h1
  ·exact h2
structure LQ (d : List Int) (s : List Bool) (D : Nat → Int) (a z : Nat) : Prop where
 dl : d.length = z - a + 1
 sl : s.length = z - a + 1
 at_ : ∀ k, a ≤ k → k ≤ z → d.getD (k - a) 0 = (if D k = -1 then 0 else D k) ∧ s.getD (k - a) false = (D k != -1)
theorem J4 {l : List Bool} {i j : Nat} {v d : Bool} (h : i < l.length) : (l.set i v).getD j d = if j = i then v else l.getD j d := ed h
theorem LQ.put {d : List Int} {s : List Bool} {D : Nat → Int} {a z : Nat} (h : LQ d s D a z) (b : Int → Int → Int) {k : Nat} (hk : a ≤ k) (hk2 : k ≤ z) {v x : Int} (hx : x = if D k = -1 then v else b (D k) v) (hx0 : x ≠ -1) : LQ (d.set (k - a) x) (s.set (k - a) true) (et b D k v) a z := by
 have h1 := h.dl
 have h2 := h.sl
 refine ⟨by rw [aO, h1], by rw [aO, h2], fun j j1 j2 => ?_⟩
 rw [ed (by omega), J4 (by omega)]
 unfold et
 by_cases e : j = k
 ·subst e
  rw [if_pos rfl, if_pos rfl, if_pos rfl, ← hx, if_neg hx0]
  exact ⟨rfl, (aj.2 hx0).symm⟩
 ·have e3 : ¬ (j - a = k - a) := by omega
  simp only [e3, e, ax]
  exact h.at_ j j1 j2
theorem LQ.same {d : List Int} {s : List Bool} {D : Nat → Int} {a z : Nat} (h : LQ d s D a z) (b : Int → Int → Int) {k : Nat} {v : Int} (h1 : D k ≠ -1) (h2 : b (D k) v = D k) : LQ d s (et b D k v) a z := by
 refine ⟨h.dl, h.sl, fun j j1 j2 => ?_⟩
 unfold et
 by_cases e : j = k
 ·subst e
  rw [if_pos rfl, if_neg h1, h2]
  exact h.at_ j j1 j2
 ·rw [if_neg e]
  exact h.at_ j j1 j2
def ew (b : Int → Int → Int) (n : Nat) (l : List cY) : Int × Int :=
 if d6 l ≠ 0 then (0, d6 l) else if fg l ≠ 0 then (0, fg l)
 else if dm (dY b l (dq l).1 n 0 (l.length - 1)) 1 = 1048577 then (0, 4) else (dm (dY b l (dq l).1 n 0 (l.length - 1)) 1, 0)
theorem gG {l : List cY} (h : d6 l = 0) : eK l = 0 := by
 unfold d6 at h
 split at h
 ·exact h
 ·rename_i h1
  by_cases e : eK l = 0
  ·exact e
  ·exact absurd e h1
theorem Nh {k : Nat} (h : 0 < k) (h2 : k < 1000000) : wrap .i64 ((k : Int) - 1) = ((k - 1 : Nat) : Int) := vh h h2
theorem HA (n : Nat) (l : List cY) (hl : l.length < n) (hn3 : 3 < n) (hn : n < 1000000) : iL n l = some (ew bM n l) := by
 obtain ⟨o1, h1⟩ := Ej n l hl hn
 obtain ⟨o2, h2⟩ := BK n l hl hn3 hn
 unfold iL ew
 rw [h1, ae]
 by_cases hk : d6 l = 0
 ·have hw := gG hk
  have hs := jo hw
  have hF := nC hw
  obtain ⟨l1, l2⟩ := hF.len
  rw [if_neg (fun h => (aj.1 h) hk), if_neg (show ¬ (d6 l ≠ 0) from fun h => h hk), h2, ae]
  by_cases ht : fg l = 0
  ·have hS := (AF ht).2
   rw [if_neg (fun h => (aj.1 h) ht), if_neg (show ¬ (fg l ≠ 0) from fun h => h ht), xH n l hl hn, ae]
   simp only
   have hwy := kA eD hF hS n hF.wayAll
   have hw1 := Nf n hF hl hF.all
   rw [show ((0 : Nat) : Int) = 0 from rfl] at hw1
   rw [if_neg (fun h => (aj.1 h) hs), Nh l1 (by omega), hw1, ae, im n (by omega) hwy.2 (by decide) (by decide), ae]
   generalize dm (dY bM l (dq l).1 n 0 (l.length - 1)) 1 = w
   by_cases e : w = 1048577
   ·rw [if_pos e, if_pos (by simpa only [af] using e)]
   ·rw [if_neg e, if_neg (by simpa only [af] using e)]
  ·rw [if_pos (show (fg l != 0) = true from aj.2 ht), if_pos (show (fg l != 0) = true from aj.2 ht), if_pos ht]
 ·rw [if_pos (show (d6 l != 0) = true from aj.2 hk), if_pos (show (d6 l != 0) = true from aj.2 hk), if_pos hk]
theorem xK (n : Nat) (l : List cY) (hl : l.length < n) (hn3 : 3 < n) (hn : n < 1000000) : fE n l = some (ew bM n l) := by
 unfold fE
 rw [HA n l hl hn3 hn]
 rfl
def gC (l : List cY) (m : List Int) (n : Nat) : Nat → Nat → List (Int × Int)
 | 0, _ => []
 | r + 1, i => (if dd l i = 23 then [(dJ l i, dY bM l m n (i + 1) (mN m i) + 1)] else []) ++ gC l m n r (i + 1)
def jX (n : Nat) (l : List cY) : List (Int × Int) × Int := if (ew bM n l).2 ≠ 0 then ([], (ew bM n l).2) else (gC l (dq l).1 n l.length 0, 0)
theorem BO (n : Nat) {l : List cY} {m h : List Int} (hF : Fine l m h) (hn : l.length < n) : ∀ (f i : Nat) {o : List (Int × Int)}, o.length ≤ i → i ≤ l.length → l.length < f + i →
  it (fun F => (dM q_) (fq n F)) f (o, l, (l.length : Int), (i : Int), l, m) = some (o ++ gC l m n (l.length - i) i, l, m)
 | 0, i, o, ho, hi, hf => by omega
 | f + 1, i, o, ho, hi, hf => by
  have ih := fun {o : List (Int × Int)} => BO n hF hn f (i + 1) (o := o)
  show fq n (it _ f) o l (l.length : Int) (i : Int) l m = _
  generalize it (fun F => (dM q_) (fq n F)) f = F at ih ⊢
  obtain ⟨l1, l2⟩ := hF.len
  unfold fq
  rcases ak i l.length with hlt | hge
  ·rw [if_pos (ag (by omega)), if_pos (dc hlt), ai, di (by omega), show l.length - i = (l.length - (i + 1)) + 1 by omega]
   rw [show gC l m n (l.length - (i + 1) + 1) i = (if dd l i = 23 then [(dJ l i, dY bM l m n (i + 1) (mN m i) + 1)] else []) ++ gC l m n (l.length - (i + 1)) (i + 1) from rfl]
   by_cases h23 : (l.getD i (0, 0, 0)).1 = 23
   ·rw [if_pos (show ((l.getD i (0, 0, 0)).1 == 23) = true by simpa only [af] using h23), if_pos (show dd l i = 23 from h23), if_pos (dc (by rw [hF.nest.hm]; exact hlt))]
    have ho2 : du l i = true := isOpen_iff.2 (.inr h23)
    obtain ⟨j, j1, j2, j3⟩ := hF.nest.open_ i hlt ho2
    have hj : mN m i = j := by unfold mN; rw [j1]; rfl
    have hR := hF.reg hlt ho2
    rw [hj] at hR ⊢
    have hwy := jp eD hF n hR
    rw [j1, Ng n hF hn hR, ae, if_pos (by simp; omega)]
    have hwr : wrap .i64 (dY bM l m n (i + 1) j + 1) = dY bM l m n (i + 1) j + 1 := by
     rcases hwy with h | h
     ·rw [h]; rfl
     ·exact dA (by omega) (by omega)
    rw [hwr, ih (by simp; omega) (by omega) (by omega), aM]
   ·rw [if_neg (show ¬ ((l.getD i (0, 0, 0)).1 == 23) = true by simpa only [af] using h23), if_neg (show ¬ dd l i = 23 from h23), ih (by omega) (by omega) (by omega), bQ]
  ·have : i = l.length := by omega
   subst this
   rw [if_neg (by simp), bf]
   simp [gC]
theorem rN {b : Int → Int → Int} {n : Nat} {l : List cY} (h : (ew b n l).2 = 0) : d6 l = 0 ∧ fg l = 0 := by
 unfold ew at h
 by_cases h1 : d6 l = 0
 ·rw [if_neg (show ¬ (d6 l ≠ 0) from fun h => h h1)] at h
  by_cases h2 : fg l = 0
  ·exact ⟨h1, h2⟩
  ·rw [if_pos h2] at h
   exact absurd h h2
 ·rw [if_pos h1] at h
  exact absurd h h1
theorem Fi (n : Nat) (l : List cY) (hl : l.length < n) (hn3 : 3 < n) (hn : n < 1000000) : gq n l = some (jX n l) := by
 unfold gq jX
 rw [xK n l hl hn3 hn, ae]
 by_cases h0 : (ew bM n l).2 = 0
 ·obtain ⟨hk, ht⟩ := rN h0
  obtain ⟨o1, h1⟩ := Ej n l hl hn
  obtain ⟨o2, h2⟩ := BK n l hl hn3 hn
  have hF := nC (gG hk)
  have hlp := BO n hF hl n 0 (o := []) (ao _) (ao _) (by omega)
  rw [show ((0 : Nat) : Int) = 0 from rfl, bq] at hlp
  unfold iW
  rw [if_neg (fun h => (aj.1 h) h0), if_neg (show ¬ ((ew bM n l).2 ≠ 0) from fun h => h h0), h1, ae, if_neg (fun h => (aj.1 h) hk), h2, ae, if_neg (fun h => (aj.1 h) ht), xH n l hl hn, ae]
  simp only
  rw [hlp, ae, bQ]
 ·rw [if_pos (aj.2 h0), if_pos h0]
theorem Ni {D : Nat → Int} {k : Nat} {v : Int} (hv : 0 ≤ v) (hD : StepsI (D k)) : ∀ j, D j ≤ et bM D k v j := fun j => by
 unfold et
 by_cases e : j = k
 ·subst e
  rw [if_pos rfl]
  split
  ·omega
  ·unfold bM; split <;> omega
 ·rw [if_neg e]; omega
theorem Nj {D : Nat → Int} {k : Nat} {v : Int} (hv : 0 ≤ v) : v ≤ et bM D k v k := by
 unfold et
 rw [if_pos rfl]
 split
 ·omega
 ·unfold bM; split <;> omega
theorem Es {v : Int} (hv : 0 ≤ v ∧ v ≤ 1048577) : ∀ (ks : List Nat) {D : Nat → Int}, (∀ k, StepsI (D k)) → (∀ j, D j ≤ ks.foldl (fun g k => et bM g k v) D j) ∧ ∀ j ∈ ks, v ≤ ks.foldl (fun g k => et bM g k v) D j
 | [], D, hD => ⟨fun j => aZ _, fun j hj => by cases hj⟩
 | q :: ks, D, hD => by
  obtain ⟨h1, h2⟩ := Es hv ks (D := et bM D q v) (qE eD hD q hv)
  refine ⟨fun j => bN (Ni hv.1 (hD q) j) (h1 j), fun j hj => ?_⟩
  rcases aA.1 hj with e | e
  ·subst e
   exact bN (Nj hv.1) (h1 j)
  ·exact h2 j e
theorem StepsI.nn {v : Int} (h : StepsI v) (h1 : v ≠ -1) : 0 ≤ v ∧ v ≤ 1048577 := h.elim (fun h => absurd h h1) id
theorem oB {W : Nat → Nat → Int} {l : List cY} {m : List Int} {i : Nat} {D : Nat → Int} (hD : ∀ k, StepsI (D k)) (hr : dH (l.getD i (0, 0, 0)) = true) (hW : dd l i = 21 → StepsI (W (i + 1) (mN m i))) : (∀ j, D j ≤ en bM W l m i D j) ∧ (D i ≠ -1 → ∀ j ∈ eG l m i, dm (D i) (ep W l m i) ≤ en bM W l m i D j) := by
 unfold en
 by_cases e : D i = -1
 ·rw [if_pos e]
  exact ⟨fun j => aZ _, fun h => absurd e h⟩
 ·rw [if_neg e]
  obtain ⟨h1, h2⟩ := Es (fx ((hD i).nn e).1 (il hr hW).1) (eG l m i) hD
  exact ⟨h1, fun _ => h2⟩
theorem AG {a b c d : Int} (h : a ≤ b) (k : c ≤ d) : dm a c ≤ dm b d := by unfold dm; split <;> split <;> omega
theorem J5 {a b : Int} (ha : a ≤ 1048577) (hb : 0 ≤ b) : a ≤ dm a b := by unfold dm; split <;> omega
theorem HB {a b c : Int} (ha : 0 ≤ a) (hb : 0 ≤ b) (hc : 0 ≤ c) : dm (dm a b) c = dm a (dm b c) := by unfold dm; split <;> split <;> split <;> (try split) <;> omega
theorem Reg.hop {l : List cY} {m : List Int} {a z : Nat} (hR : Reg l m a z) {i : Nat} (h1 : a ≤ i) (h2 : i < z) : eG l m i ≠ [] ∧ ∀ k ∈ eG l m i, i < k ∧ k ≤ z := by
 unfold eG
 by_cases h21 : dd l i = 21
 ·rw [if_pos h21]
  obtain ⟨j, j1, j2, j3⟩ := hR.loop i h1 h2 (isOpen_iff.2 (.inl h21))
  refine ⟨by simp, fun k hk => ?_⟩
  have : k = mN m i + 1 := by simpa using hk
  unfold mN at this
  rw [j1] at this
  simp at this
  omega
 ·rw [if_neg h21]
  by_cases h19 : dd l i = 19
  ·rw [if_pos h19]
   have := hR.jump i h1 h2 (.inl h19)
   refine ⟨by simp, fun k hk => ?_⟩
   have e : k = dr l i := by simpa using hk
   subst e
   refine ⟨?_, this⟩
   unfold dr
   omega
  ·rw [if_neg h19]
   by_cases h20 : dd l i = 20
   ·rw [if_pos h20]
    have := hR.jump i h1 h2 (.inr h20)
    refine ⟨by simp, fun k hk => ?_⟩
    have e : k = dr l i ∨ k = i + 1 := by simpa using hk
    rcases e with e | e
    ·subst e
     refine ⟨?_, this⟩
     unfold dr
     omega
    ·omega
   ·rw [if_neg h20]
    exact ⟨by simp, fun k hk => by
     have e : k = i + 1 := by simpa using hk
     omega⟩
theorem rO {b : Int → Int → Int} {W : Nat → Nat → Int} {l : List cY} {m : List Int} : ∀ (r s i : Nat) (D : Nat → Int), eH b W l m (r + s) i D = eH b W l m s (i + r) (eH b W l m r i D)
 | 0, s, i, D => by rw [bU]; rfl
 | r + 1, s, i, D => by
  rw [show r + 1 + s = (r + s) + 1 by omega]
  show eH b W l m (r + s) (i + 1) _ = eH b W l m s (i + (r + 1)) (eH b W l m r (i + 1) _)
  rw [rO r s (i + 1), show i + 1 + r = i + (r + 1) by omega]
theorem Et {W : Nat → Nat → Int} {l : List cY} {m : List Int} (hr : ∀ i, i < l.length → dH (l.getD i (0, 0, 0)) = true) {a z : Nat} (hR : Reg l m a z) (hW : ∀ i, a ≤ i → i < z → dd l i = 21 → StepsI (W (i + 1) (mN m i))) {c : Int} (hc : 0 ≤ c) : ∀ (r i : Nat) {D : Nat → Int}, (∀ k, StepsI (D k)) → a ≤ i → i + r = z → (∃ k, i ≤ k ∧ k ≤ z ∧ c ≤ D k) → c ≤ eH bM W l m r i D z
 | 0, i, D, hD, hi, hz, ⟨k, k1, k2, k3⟩ => by
  have : k = z := by omega
  subst this
  exact k3
 | r + 1, i, D, hD, hi, hz, ⟨k, k1, k2, k3⟩ => by
  have hlt := hR.lt
  have hWi := hW i hi (by omega)
  have hri := hr i (by omega)
  obtain ⟨s1, s2⟩ := oB hD hri hWi
  refine Et hr hR hW hc r (i + 1) (fL eD hD hri hWi) (by omega) (by omega) ?_
  by_cases e : k = i
  ·subst e
   have hDk : D k ≠ -1 := by omega
   obtain ⟨n1, n2⟩ := hR.hop hi (by omega)
   obtain ⟨q, qs, hq⟩ := List.exists_cons_of_ne_nil n1
   have hqm : q ∈ eG l m k := by rw [hq]; exact aB ..
   obtain ⟨q1, q2⟩ := n2 q hqm
   refine ⟨q, by omega, q2, ?_⟩
   have := s2 hDk q hqm
   have h3 := J5 ((hD k).nn hDk).2 (il hri hWi).1
   omega
  ·exact ⟨k, by omega, k2, bN k3 (s1 k)⟩
theorem Gl {W : Nat → Nat → Int} {l : List cY} {m : List Int} (hr : ∀ i, i < l.length → dH (l.getD i (0, 0, 0)) = true) {c : Int} (hc : 0 ≤ c ∧ c ≤ 1048577) : ∀ (r i : Nat) {D D0 : Nat → Int}, (∀ k, StepsI (D k)) → (∀ k, StepsI (D0 k)) → r + i ≤ l.length → (∀ k, i ≤ k → k < r + i → dd l k = 21 → StepsI (W (k + 1) (mN m k))) → (∀ j, i ≤ j → D0 j ≠ -1 → dm c (D0 j) ≤ D j) → ∀ j, i + r ≤ j → eH bM W l m r i D0 j ≠ -1 → dm c (eH bM W l m r i D0 j) ≤ eH bM W l m r i D j
 | 0, i, D, D0, hD, hD0, hl, hW, h, j, hj, hn => h j hj hn
 | r + 1, i, D, D0, hD, hD0, hl, hW, h, j, hj, hn => by
  have hWi := hW i (aq _) (by omega)
  have hri := hr i (by omega)
  have hco := il hri hWi
  obtain ⟨s1, s2⟩ := oB hD hri hWi
  refine Gl hr hc r (i + 1) (fL eD hD hri hWi) (fL eD hD0 hri hWi) (by omega) (fun k h1 h2 => hW k (by omega) (by omega)) (fun q hq hq2 => ?_) j (by omega) hn
  by_cases e : D0 i = -1
  ·have e2 : en bM W l m i D0 = D0 := by unfold en; rw [if_pos e]
   rw [e2] at hq2 ⊢
   exact bN (h q (by omega) hq2) (s1 q)
  ·have hi := h i (aq _) e
   have hD0i := (hD0 i).nn e
   have hci := fx hc.1 hD0i.1
   have hDi : D i ≠ -1 := by omega
   have hDi2 := (hD i).nn hDi
   have s2 := s2 hDi
   have hv : dm c (dm (D0 i) (ep W l m i)) ≤ dm (D i) (ep W l m i) := by
    rw [← HB hc.1 hD0i.1 hco.1]
    exact AG hi (aZ _)
   have key : ∀ (ks : List Nat) {E : Nat → Int}, (∀ k, StepsI (E k)) → (∀ k ∈ ks, k ∈ eG l m i) → (∀ k, i + 1 ≤ k → E k ≠ -1 → dm c (E k) ≤ en bM W l m i D k) → ∀ k, i + 1 ≤ k → ks.foldl (fun g k => et bM g k (dm (D0 i) (ep W l m i))) E k ≠ -1 → dm c (ks.foldl (fun g k => et bM g k (dm (D0 i) (ep W l m i))) E k) ≤ en bM W l m i D k := by
    intro ks
    induction ks with
    | nil => intro E hE hk h0 k hk2 hn; exact h0 k hk2 hn
    | cons q ks ih =>
     intro E hE hk h0
     refine ih (qE eD hE q (fx hD0i.1 hco.1)) (fun k h => hk k (az _ h)) (fun k hk2 hn => ?_)
     show dm c (et bM E q (dm (D0 i) (ep W l m i)) k) ≤ _
     replace hn : et bM E q (dm (D0 i) (ep W l m i)) k ≠ -1 := hn
     by_cases ek : k = q
     ·subst ek
      have h1 := s2 k (hk k (aB ..))
      unfold et at hn ⊢
      rw [if_pos rfl] at hn ⊢
      by_cases eE : E k = -1
      ·rw [if_pos eE]
       exact bN hv h1
      ·rw [if_neg eE]
       have h2 := h0 k hk2 eE
       unfold bM
       split
       ·exact bN hv h1
       ·exact h2
     ·unfold et at hn ⊢
      rw [if_neg ek] at hn ⊢
      exact h0 k hk2 hn
   have e2 : en bM W l m i D0 = (eG l m i).foldl (fun g k => et bM g k (dm (D0 i) (ep W l m i))) D0 := by unfold en; rw [if_neg e]
   rw [e2] at hq2 ⊢
   exact key (eG l m i) hD0 (fun k h => h) (fun k hk hn => bN (h k (by omega) hn) (s1 k)) q hq hq2
theorem Eu {l : List cY} {m h : List Int} (hF : Fine l m h) (hC : Closed l m) (hS : xJ l) {n : Nat} (hn : l.length < n) {a z : Nat} (hR : Way l m a z) {q : Nat} (hq : qF l m a z q) (hqz : q < z) (ho : dd l q = 23) : dm 2 (dY bM l m n (q + 1) (mN m q)) ≤ dY bM l m n a z := by
 have hlt := hR.reg.lt
 obtain ⟨q1, q2, q3⟩ := hq
 have hqo : du l q = true := isOpen_iff.2 (.inr ho)
 obtain ⟨j, j1, j2, j3⟩ := hR.reg.loop q q1 hqz hqo
 have hj : mN m q = j := by unfold mN; rw [j1]; rfl
 rw [hj]
 obtain ⟨n, rfl⟩ : ∃ n', n = n' + 1 := ⟨n - 1, by omega⟩
 have hRq : Reg l m (q + 1) j := hj ▸ hF.reg (by omega) hqo
 have hr : ∀ i, i < l.length → dH (l.getD i (0, 0, 0)) = true := fun i hi => hF.right hi
 have hW : ∀ i, a ≤ i → i < z → dd l i = 21 → StepsI (dY bM l m n (i + 1) (mN m i)) := fun i i1 i2 i3 => jp eD hF n (hF.reg (by omega) (isOpen_iff.2 (.inl i3)))
 have hopj : dd l j = 24 := by
  obtain ⟨j', c1, c2, c3, c4, c5⟩ := hC.op_ q (by omega) hqo
  rw [j1] at c1
  have : j = j' := by omega
  subst this
  show (l.getD j (0, 0, 0)).1 = 24
  rw [c4]
  unfold ends
  rw [if_neg (by show ¬ (l.getD q (0, 0, 0)).1 = 21; rw [show (l.getD q (0, 0, 0)).1 = 23 from ho]; decide)]
 show dm 2 (eH bM (dY bM l m n) l m (j - (q + 1)) (q + 1) (fe (q + 1)) j) ≤ eH bM (dY bM l m n) l m (z - a) a (fe a) z
 -- to the block
 rw [show z - a = (q - a) + (z - q) by omega, rO, show a + (q - a) = q by omega]
 have hD1 : ∀ k, StepsI (eH bM (dY bM l m n) l m (q - a) a (fe a) k) := vk eD hr (q - a) a (gB a) (by omega) (fun k k1 k2 => hW k k1 (by omega))
 have hDq : eH bM (dY bM l m n) l m (q - a) a (fe a) q ≠ -1 := by
  have hRq' : ∀ k, qF l m a z k → k ≤ q → eH bM (dY bM l m n) l m (q - a) a (fe a) k ≠ -1 := by
   -- reached ahead of it
   have gen : ∀ (r i : Nat) {D : Nat → Int}, (∀ k, StepsI (D k)) → a ≤ i → i + r = q → (∀ k, qF l m a z k → k = a ∨ (∃ p, qF l m a z p ∧ p < i ∧ k ∈ eG l m p) → D k ≠ -1) → ∀ k, qF l m a z k → k ≤ q → eH bM (dY bM l m n) l m r i D k ≠ -1 := by
    intro r
    induction r with
    | zero =>
     intro i D hD hi hz hI k hk hkq
     refine hI k hk ?_
     by_cases e : k = a
     ·exact .inl e
     ·obtain ⟨p, p1, p2, p3⟩ := vl hF hS hR hk (by have := hk.1; omega)
      exact .inr ⟨p, p1, by omega, p3⟩
    | succ r ih =>
     intro i D hD hi hz hI k hk hkq
     have hWi := hW i hi (by omega)
     have hri := hr i (by omega)
     refine ih (i + 1) (fL eD hD hri hWi) (by omega) (by omega) (fun k' hk' hp => ?_) k hk hkq
     obtain ⟨s1, s2⟩ := oB hD hri hWi
     have old : D k' ≠ -1 → en bM (dY bM l m n) l m i D k' ≠ -1 := fun h => by
      have := s1 k'
      have := ((hD k').nn h).1
      omega
     rcases hp with h1 | ⟨p, p1, p2, p3⟩
     ·exact old (hI k' hk' (.inl h1))
     ·by_cases e : p = i
      ·subst e
       have hDp : D p ≠ -1 := by
        refine hI p p1 ?_
        by_cases e : p = a
        ·exact .inl e
        ·obtain ⟨p', a1, a2, a3⟩ := vl hF hS hR p1 (by omega)
         exact .inr ⟨p', a1, a2, a3⟩
       have h3 := s2 hDp k' p3
       have h4 := fx ((hD p).nn hDp).1 (il hri hWi).1
       omega
      ·exact old (hI k' hk' (.inr ⟨p, p1, by omega, p3⟩))
   intro k hk hkq
   refine gen (q - a) a (gB a) (aq _) (by omega) (fun k' hk' hp => ?_) k hk hkq
   rcases hp with e | ⟨p, p1, p2, _⟩
   ·subst e; unfold fe; rw [if_pos rfl]; decide
   ·have := p1.1; omega
  exact hRq' q ⟨q1, q2, q3⟩ (aq _)
 generalize hDD : eH bM (dY bM l m n) l m (q - a) a (fe a) = D at hD1 hDq
 have hd := (hD1 q).nn hDq
 -- the block's own step
 rw [show z - q = 1 + ((j - (q + 1)) + (z - j)) by omega, rO]
 show dm 2 _ ≤ eH bM (dY bM l m n) l m ((j - (q + 1)) + (z - j)) (q + 1) (en bM (dY bM l m n) l m q D) z
 have hWq := hW q q1 hqz
 have hrq := hr q (by omega)
 obtain ⟨s1, s2⟩ := oB hD1 hrq hWq
 have hD2 := fL eD hD1 hrq hWq
 have hop : eG l m q = [q + 1] := by unfold eG; rw [if_neg (by rw [ho]; decide), if_neg (by rw [ho]; decide), if_neg (by rw [ho]; decide)]
 have hcq : ep (dY bM l m n) l m q = 1 := by unfold ep; rw [if_neg (by rw [ho]; decide)]
 have h2 := s2 hDq (q + 1) (by rw [hop]; simp)
 rw [hcq] at h2
 generalize en bM (dY bM l m n) l m q D = D2 at hD2 h2
 have h3 : (1 : Int) ≤ D2 (q + 1) := by
  have : (1 : Int) ≤ dm (D q) 1 := by unfold dm; split <;> omega
  omega
 -- what stands in it
 rw [rO, show q + 1 + (j - (q + 1)) = j by omega]
 have hw0 := kA eD hF hS (n + 1) (show Way l m (q + 1) j from hj ▸ hF.way (by omega) hqo)
 have hw1 : dY bM l m (n + 1) (q + 1) j = eH bM (dY bM l m n) l m (j - (q + 1)) (q + 1) (fe (q + 1)) j := rfl
 rw [hw1] at hw0
 have h4 := Gl hr (c := 1) (by decide) (W := dY bM l m n) (j - (q + 1)) (q + 1) (D := D2) (D0 := fe (q + 1)) hD2 (gB _) (by omega) (fun k k1 k2 => hW k (by omega) (by omega)) (fun k k1 k2 => by
  unfold fe at k2 ⊢
  by_cases e : k = q + 1
  ·subst e; rw [if_pos rfl]; unfold dm; split <;> omega
  ·rw [if_neg e] at k2; exact absurd rfl k2) j (by omega) (by omega)
 have hD3 := vk eD hr (W := dY bM l m n) (j - (q + 1)) (q + 1) hD2 (by omega) (fun k k1 k2 => hW k (by omega) (by omega))
 generalize eH bM (dY bM l m n) l m (j - (q + 1)) (q + 1) (fe (q + 1)) j = w at hw0 h4
 generalize eH bM (dY bM l m n) l m (j - (q + 1)) (q + 1) D2 = D3 at hD3 h4
 -- behind it
 rw [show z - j = (z - (j + 1)) + 1 by omega]
 show dm 2 w ≤ eH bM (dY bM l m n) l m (z - (j + 1)) (j + 1) (en bM (dY bM l m n) l m j D3) z
 have hWj := hW j (by omega) (by omega)
 have hrj := hr j (by omega)
 obtain ⟨t1, t2⟩ := oB hD3 hrj hWj
 have h1w := fx (show (0 : Int) ≤ 1 by decide) hw0.1
 have hDj : D3 j ≠ -1 := by omega
 have hopj' : eG l m j = [j + 1] := by unfold eG; rw [if_neg (by rw [hopj]; decide), if_neg (by rw [hopj]; decide), if_neg (by rw [hopj]; decide)]
 have hcj : ep (dY bM l m n) l m j = 1 := by unfold ep; rw [if_neg (by rw [hopj]; decide)]
 have h5 := t2 hDj (j + 1) (by rw [hopj']; simp)
 rw [hcj] at h5
 refine Et hr hR.reg hW (by have := fx (show (0 : Int) ≤ 2 by decide) hw0.1; omega) (z - (j + 1)) (j + 1) (fL eD hD3 hrj hWj) (by omega) (by omega) ⟨j + 1, by omega, by omega, ?_⟩
 refine bN ?_ h5
 have : dm 2 w = dm (dm 1 w) 1 := by unfold dm; split <;> split <;> (try split) <;> omega
 rw [this]
 exact AG h4 (aZ _)
theorem xL {l : List cY} (h : d6 l = 0) {i : Nat} (hi : i < l.length) : jf l (dq l).1 i = false := by
 have hw := gG h
 unfold d6 at h
 rw [if_neg (show ¬ (eK l ≠ 0) from fun k => k hw)] at h
 by_cases ha : eV (BE l (dq l).1) l.length 0 = true
 ·have := allF_iff.1 ha i (ao _) (by omega)
  unfold BE at this
  simpa using this
 ·rw [if_neg ha] at h
  cases h
theorem Ml {l : List cY} (h : d6 l = 0) {p q : Nat} (hpq : p < q) (hq : q < l.length) (hp3 : dd l p = 23) (hq3 : dd l q = 23) : q < mN (dq l).1 p ∧ dJ l p < dJ l q := by
 have hs := jo (gG h)
 have hC := lv hs
 have hb := xL h hq
 unfold jf at hb
 rw [if_pos hq3, bC] at hb
 obtain ⟨hb1, hb2⟩ := hb
 obtain ⟨j, j1, j2, j3, j4, j5⟩ := hC.op_ p (by omega) (isOpen_iff.2 (.inr hp3))
 have hj : mN (dq l).1 p = j := by unfold mN; rw [j1]; rfl
 have hopj : dd l j = 24 := by
  show (l.getD j (0, 0, 0)).1 = 24
  rw [j4]
  unfold ends
  rw [if_neg (by rw [show (l.getD p (0, 0, 0)).1 = 23 from hp3]; decide)]
 have hlt : q < j := by
  rcases Nat.lt_trichotomy j q with hlt | he | hgt
  ·exfalso
   have : hG l q = true := anyB_iff.2 ⟨j, hlt, by simp [hopj]⟩
   rw [this] at hb1; cases hb1
  ·subst he; rw [hopj] at hq3; cases hq3
  ·exact hgt
 refine ⟨by omega, ?_⟩
 rcases Int.lt_or_le (dJ l p) (dJ l q) with h1 | h1
 ·exact h1
 ·exfalso
  have he : enc l (dq l).1 p q = true := (nL (isOpen_iff.2 (.inr hp3)) j1).2 ⟨hpq, by omega⟩
  have : pl l (dq l).1 q = true := anyB_iff.2 ⟨p, hpq, by rw [he, hp3]; simp; exact h1⟩
  rw [this] at hb2; cases hb2
theorem BP {l : List cY} (h : d6 l = 0) {a z q : Nat} (ha : a ≤ q) (hz : q ≤ z) (hq : q < l.length) (hq3 : dd l q = 23) : qF l (dq l).1 a z q := by
 have hs := jo (gG h)
 have hC := lv hs
 have hb := xL h hq
 unfold jf at hb
 rw [if_pos hq3, bC] at hb
 refine ⟨ha, hz, fun p p1 p2 p3 => ?_⟩
 obtain ⟨j, j1, j2, j3, j4, j5⟩ := hC.op_ p (by omega) (isOpen_iff.2 (.inl p3))
 have hj : mN (dq l).1 p = j := by unfold mN; rw [j1]; rfl
 rcases ak (mN (dq l).1 p) q with h1 | h1
 ·exact h1
 ·exfalso
  have he : enc l (dq l).1 p q = true := (nL (isOpen_iff.2 (.inl p3)) j1).2 ⟨p2, by omega⟩
  have : pl l (dq l).1 q = true := anyB_iff.2 ⟨p, p2, by rw [he, p3]; simp⟩
  rw [this] at hb; cases hb.2
theorem Ev {l : List cY} {m : List Int} {n : Nat} : ∀ (r i : Nat), ∀ e ∈ gC l m n r i, ∃ p, i ≤ p ∧ p < i + r ∧ dd l p = 23 ∧ e = (dJ l p, dY bM l m n (p + 1) (mN m p) + 1)
 | 0, i, e, he => by cases he
 | r + 1, i, e, he => by
  unfold gC at he
  rcases ay.1 he with h | h
  ·split at h
   ·rename_i h3
    refine ⟨i, aq _, by omega, h3, ?_⟩
    simpa using h
   ·cases h
  ·obtain ⟨p, p1, p2, p3⟩ := Ev r (i + 1) e h
   exact ⟨p, by omega, by omega, p3⟩
theorem wn {l : List cY} (h : d6 l = 0) : Fine l (dq l).1 (dq l).2.1 ∧ Closed l (dq l).1 := ⟨nC (gG h), lv (jo (gG h))⟩
theorem J6 {l : List cY} {n : Nat} (h : d6 l = 0) (hS : xJ l) (hn : l.length < n) (hw : dY bM l (dq l).1 n 0 (l.length - 1) < 1048577) : ∀ (r i : Nat), i + r = l.length → (gC l (dq l).1 n r i).Pairwise (fun a b => b.2 + 2 ≤ a.2 ∧ a.1 < b.1) ∧ ∀ e ∈ gC l (dq l).1 n r i, 1 ≤ e.2 ∧ e.2 + 1 ≤ dY bM l (dq l).1 n 0 (l.length - 1) := by
 obtain ⟨hF, hC⟩ := wn h
 obtain ⟨l1, l2⟩ := hF.len
 have hend : ∀ p, p < l.length → dd l p = 23 → p < l.length - 1 := fun p hp h3 => by
  have := hF.succ hp (by rw [h3]; decide)
  omega
 have one : ∀ p, p < l.length → dd l p = 23 → 0 ≤ dY bM l (dq l).1 n (p + 1) (mN (dq l).1 p) ∧ dY bM l (dq l).1 n (p + 1) (mN (dq l).1 p) + 2 ≤ dY bM l (dq l).1 n 0 (l.length - 1) := fun p hp h3 => by
  have k1 := Eu hF hC hS hn hF.wayAll (BP h (ao p) (by have := hend p hp h3; omega) hp h3) (hend p hp h3) h3
  have k2 := kA eD hF hS n (hF.way hp (isOpen_iff.2 (.inr h3)))
  refine ⟨k2.1, ?_⟩
  unfold dm at k1
  split at k1 <;> omega
 intro r
 induction r with
 | zero => intro i hi; exact ⟨List.Pairwise.nil, fun e he => by cases he⟩
 | succ r ih =>
  intro i hi
  obtain ⟨g1, g2⟩ := ih (i + 1) (by omega)
  unfold gC
  by_cases h3 : dd l i = 23
  ·rw [if_pos h3]
   have hi1 : i < l.length := by omega
   obtain ⟨o1, o2⟩ := one i hi1 h3
   refine ⟨List.Pairwise.cons (fun e he => ?_) g1, fun e he => ?_⟩
   ·obtain ⟨p, p1, p2, p3, rfl⟩ := Ev r (i + 1) e he
    have hp1 : p < l.length := by omega
    obtain ⟨c1, c2⟩ := Ml h (show i < p by omega) hp1 h3 p3
    have k1 := Eu hF hC hS hn (hF.way hi1 (isOpen_iff.2 (.inr h3))) (BP h (show i + 1 ≤ p by omega) (by omega) hp1 p3) c1 p3
    have k2 := (one p hp1 p3).1
    refine ⟨?_, c2⟩
    show _ + 1 + 2 ≤ _ + 1
    unfold dm at k1
    split at k1 <;> omega
   ·rcases aA.1 he with rfl | he
    ·exact ⟨by show 1 ≤ _ + 1; omega, by show _ + 1 + 1 ≤ _; omega⟩
    ·exact g2 e he
  ·rw [if_neg h3, bQ]
   exact ⟨g1, g2⟩
theorem PK {D E : Nat → Int} (hD : ∀ k, StepsI (D k)) (hE : ∀ k, StepsI (E k)) (h : ∀ k, (D k = -1 ↔ E k = -1) ∧ D k ≤ E k) {k : Nat} {u v : Int} (huv : u ≤ v) (hu : 0 ≤ u) : ∀ j, (et bL D k u j = -1 ↔ et bM E k v j = -1) ∧ et bL D k u j ≤ et bM E k v j := fun j => by
 unfold et
 by_cases e : j = k
 ·subst e
  rw [if_pos rfl, if_pos rfl]
  obtain ⟨h1, h2⟩ := h j
  by_cases e2 : D j = -1
  ·rw [if_pos e2, if_pos (h1.1 e2)]
   exact ⟨by constructor <;> intro <;> omega, huv⟩
  ·have e3 : ¬ E j = -1 := fun k => e2 (h1.2 k)
   rw [if_neg e2, if_neg e3]
   have a1 := ((hD j).nn e2).1
   have a2 := ((hE j).nn e3).1
   unfold bL bM
   split <;> split <;> exact ⟨by constructor <;> intro <;> omega, by omega⟩
 ·rw [if_neg e, if_neg e]
  exact h j
theorem Gm {u v : Int} (huv : u ≤ v) (hu : 0 ≤ u ∧ u ≤ 1048577) (hv : v ≤ 1048577) : ∀ (ks : List Nat) {D E : Nat → Int}, (∀ k, StepsI (D k)) → (∀ k, StepsI (E k)) → (∀ k, (D k = -1 ↔ E k = -1) ∧ D k ≤ E k) → ∀ j, (ks.foldl (fun g k => et bL g k u) D j = -1 ↔ ks.foldl (fun g k => et bM g k v) E j = -1) ∧ ks.foldl (fun g k => et bL g k u) D j ≤ ks.foldl (fun g k => et bM g k v) E j
 | [], D, E, hD, hE, h, j => h j
 | k :: ks, D, E, hD, hE, h, j => Gm huv hu hv ks (D := et bL D k u) (E := et bM E k v) (qE uH hD k hu) (qE eD hE k ⟨by omega, hv⟩) (PK hD hE h huv hu.1) j
theorem Mm {v w A : Int} (hv : 0 ≤ v) (hvw : v ≤ w) (hw : w ≤ 1048577) (hA : 1 ≤ A) : f9 v A ≤ f9 w A := by
 have key : ∀ x : Int, 0 ≤ x → x ≤ 1048577 → (if x + 1 ≥ 1048577 then f9 x A = 1048577 else f9 x A = min (1 + A * (x + 1)) 1048577) := fun x hx hx2 => by
  unfold f9
  by_cases h : x + 1 ≥ 1048577
  ·rw [if_pos h]
   have : dm x 1 = 1048577 := by unfold dm; split <;> omega
   rw [if_pos this]
  ·rw [if_neg h]
   have : dm x 1 = x + 1 := by unfold dm; split <;> omega
   rw [this, if_neg (by omega)]
   unfold dm
   omega
 have k1 := key v hv (by omega)
 have k2 := key w (by omega) hw
 have hm : A * (v + 1) ≤ A * (w + 1) := Int.mul_le_mul_of_nonneg_left (by omega) (by omega)
 have hb : f9 v A ≤ 1048577 := (loopI_cap v A)
 split at k1 <;> split at k2 <;> omega
where
 loopI_cap (v A : Int) : f9 v A ≤ 1048577 := by
  unfold f9
  split
  ·omega
  ·unfold dm; split <;> omega
theorem J7 {W W' : Nat → Nat → Int} {l : List cY} {m : List Int} (hr : ∀ i, i < l.length → dH (l.getD i (0, 0, 0)) = true) : ∀ (r i : Nat) {D E : Nat → Int}, (∀ k, StepsI (D k)) → (∀ k, StepsI (E k)) → r + i ≤ l.length → (∀ k, i ≤ k → k < r + i → dd l k = 21 → StepsI (W (k + 1) (mN m k)) ∧ StepsI (W' (k + 1) (mN m k)) ∧ 0 ≤ W (k + 1) (mN m k) ∧ W (k + 1) (mN m k) ≤ W' (k + 1) (mN m k)) → (∀ k, (D k = -1 ↔ E k = -1) ∧ D k ≤ E k) → ∀ j, (eH bL W l m r i D j = -1 ↔ eH bM W' l m r i E j = -1) ∧ eH bL W l m r i D j ≤ eH bM W' l m r i E j
 | 0, i, D, E, hD, hE, hl, hW, h, j => h j
 | r + 1, i, D, E, hD, hE, hl, hW, h, j => by
  have hWi := hW i (aq _) (by omega)
  have hri := hr i (by omega)
  have w1 := il hri (fun e => (hWi e).1)
  have w2 := il hri (fun e => (hWi e).2.1)
  have hc : ep W l m i ≤ ep W' l m i := by
   unfold ep
   by_cases e : dd l i = 21
   ·rw [if_pos e, if_pos e]
    obtain ⟨q1, q2, q3, q4⟩ := hWi e
    have hA : 1 ≤ dJ l i := by
     have hri' := hri
     rw [show l.getD i (0, 0, 0) = (21, dJ l i, (l.getD i (0, 0, 0)).2.2) from by rw [← e]] at hri'
     exact (vj hri').1
    exact Mm q3 q4 (q2.nn (by omega)).2 hA
   ·rw [if_neg e, if_neg e]; omega
  refine J7 hr r (i + 1) (fL uH hD hri (fun e => (hWi e).1)) (fL eD hE hri (fun e => (hWi e).2.1)) (by omega) (fun k h1 h2 => hW k (by omega) (by omega)) (fun k => ?_) j
  unfold en
  by_cases e : D i = -1
  ·rw [if_pos e, if_pos ((h i).1.1 e)]
   exact h k
  ·have e' : ¬ E i = -1 := fun x => e ((h i).1.2 x)
   rw [if_neg e, if_neg e']
   exact Gm (AG (h i).2 hc) (fx ((hD i).nn e).1 w1.1) (fx ((hE i).nn e').1 w2.1).2 _ hD hE h k
theorem J8 {l : List cY} {m h : List Int} (hF : Fine l m h) (hS : xJ l) : ∀ (f : Nat) {a z : Nat}, Way l m a z → dY bL l m f a z ≤ dY bM l m f a z
 | 0, a, z, hR => aZ _
 | f + 1, a, z, hR => by
  have hlt := hR.reg.lt
  have hle := hR.reg.le
  refine (J7 (fun i hi => hF.right hi) (z - a) a (gB a) (gB a) (by omega) (fun k k1 k2 k3 => ?_) (fun k => ⟨Iff.rfl, aZ _⟩) z).2
  have hk := hF.way (show k < l.length by omega) (isOpen_iff.2 (.inl k3))
  exact ⟨jp uH hF f hk.reg, jp eD hF f hk.reg, (kA uH hF hS f hk).1, J8 hF hS f hk⟩
theorem rP (n : Nat) (l : List cY) (h : (ew bM n l).2 = 0) : (ew bL n l).2 = 0 ∧ 1 ≤ (ew bL n l).1 ∧ (ew bL n l).1 ≤ (ew bM n l).1 ∧ (ew bM n l).1 = dY bM l (dq l).1 n 0 (l.length - 1) + 1 ∧ (ew bM n l).1 ≤ 1048576 := by
 obtain ⟨h1, h2⟩ := rN h
 obtain ⟨hF, hC⟩ := wn h1
 have hS := (AF h2).2
 have r1 := kA uH hF hS n hF.wayAll
 have r2 := kA eD hF hS n hF.wayAll
 have r3 := J8 hF hS n hF.wayAll
 unfold ew at h ⊢
 rw [if_neg (show ¬ (d6 l ≠ 0) from fun k => k h1), if_neg (show ¬ (fg l ≠ 0) from fun k => k h2)] at h ⊢
 rw [if_neg (show ¬ (d6 l ≠ 0) from fun k => k h1), if_neg (show ¬ (fg l ≠ 0) from fun k => k h2)]
 split at h
 ·cases h
 ·rename_i hne
  rw [if_neg hne]
  unfold dm at hne ⊢
  split at hne
  ·exact absurd rfl hne
  ·rename_i h5
   rw [if_neg h5, if_neg (show ¬ (1048577 < dY bL l (dq l).1 n 0 (l.length - 1) + 1) by omega), if_neg (by omega)]
   exact ⟨rfl, by show 1 ≤ _ + 1; omega, by show _ + 1 ≤ _ + 1; omega, rfl, by show _ + 1 ≤ (1048576 : Int); omega⟩
theorem d7 {X R : Type} {S : (X → Option R) → X → Option R} (Q : Nat → X → R → Prop) (h0 : ∀ x r, ¬ Q 0 x r) (h : ∀ f x F, (∀ y r, Q f y r → F y = some r) → ∀ r, Q (f + 1) x r → S F x = some r) : ∀ f x r, Q f x r → it S f x = some r
 | 0, x, r, hq => absurd hq (h0 x r)
 | f + 1, x, r, hq => h f x (it S f) (d7 Q h0 h f) r hq
abbrev Tsk := Int × Int × Int × Int × List Int × List Int × List cY
abbrev Img := Int × Int × Int × Int × List Int × List (List Int) × List Tsk
abbrev Tsk.blocks (t : Tsk) : List Int := t.2.2.2.2.1
abbrev Tsk.outs (t : Tsk) : List Int := t.2.2.2.2.2.1
abbrev Tsk.code (t : Tsk) : List cY := t.2.2.2.2.2.2
abbrev Img.inputs (m : Img) : Int := m.2.2.2.1
abbrev Img.safe (m : Img) : List Int := m.2.2.2.2.1
abbrev Img.blocks (m : Img) : List (List Int) := m.2.2.2.2.2.1
abbrev Img.tasks (m : Img) : List Tsk := m.2.2.2.2.2.2
theorem dP {α : Type} {l : List α} {i : Nat} {d : α} (h : i < l.length) : l.drop i = l.getD i d :: l.drop (i + 1) := by
 rw [b9 h, ar, av h]
 rfl
theorem Nk (n : Nat) (t : Tsk) (m : Img) (p : Int) (hl : t.outs.length < n) (hn : n < 1000000) : tK n (t, m) p = some (t.outs.contains p) := by
 unfold tK tJ
 have := d7 (S := fun F => (dk q_) (qd n F)) (fun f x r => ∃ i : Nat, x = (p, t.outs, (t.outs.length : Int), (i : Int)) ∧ i ≤ t.outs.length ∧ t.outs.length < f + i ∧ r = if (t.outs.drop i).contains p = true then .inl ((true, ()), ()) else .inr ((), ())) (fun x r ⟨i, _, h1, h2, _⟩ => by omega) (fun f x F hF r => ?_) n (p, t.outs, (t.outs.length : Int), 0) _ ⟨0, rfl, ao _, by omega, rfl⟩
 ·rw [this, bh]
  cases h : t.outs.contains p <;> rfl
 ·rintro ⟨i, rfl, h1, h2, rfl⟩
  show qd n F p t.outs (t.outs.length : Int) (i : Int) = _
  unfold qd
  rcases ak i t.outs.length with hlt | hge
  ·rw [if_pos (ag (by omega)), if_pos (dc hlt), ai, di (by omega), dP (d := (0 : Int)) hlt, List.contains_cons]
   by_cases e : t.outs.getD i 0 = p
   ·rw [if_pos (af.2 e), e, ba, Bool.true_or, if_pos rfl]
   ·rw [if_neg (fun h => e (af.1 h))]
    have e2 : (p == t.outs.getD i 0) = false := by rw [aP]; exact fun h => e h.symm
    rw [e2, co]
    exact hF _ _ ⟨i + 1, rfl, by omega, by omega, rfl⟩
  ·have : i = t.outs.length := by omega
   subst this
   rw [if_neg (by simp), aS]
   rfl
def me (m : Img) (t : Tsk) (i : cY) : Bool :=
 if i.1 = 15 then decide (i.2.1 < m.inputs) else if i.1 = 16 then t.outs.contains i.2.1 else if i.1 = 17 then decide (i.2.2 < ((m.blocks.getD i.2.1.toNat []).length : Int)) else if i.1 = 18 then decide (i.2.2 < ((m.blocks.getD i.2.1.toNat []).length : Int)) else true
theorem Nl (n : Nat) (t : Tsk) (m : Img) (i : cY) (ho : t.outs.length < n) (hn : n < 1000000) (hb : i.1 = 17 ∨ i.1 = 18 → 0 ≤ i.2.1 ∧ i.2.1 < (m.blocks.length : Int)) (l : List cY) (v k : Int) :
  yJ n true l v k t.1 t.2.1 t.2.2.1 t.2.2.2.1 t.2.2.2.2.1 t.2.2.2.2.2.1 t.2.2.2.2.2.2 m.1 m.2.1 m.2.2.1 m.2.2.2.1 m.2.2.2.2.1 m.2.2.2.2.2.1 m.2.2.2.2.2.2 i.1 i.2.1 i.2.2 = some (me m t i, l, v, k, t.1, t.2.1, t.2.2.1, t.2.2.2.1, t.2.2.2.2.1, t.2.2.2.2.2.1, t.2.2.2.2.2.2, m.1, m.2.1, m.2.2.1, m.2.2.2.1, m.2.2.2.2.1, m.2.2.2.2.2.1, m.2.2.2.2.2.2, i.1, i.2.1, i.2.2) := by
 unfold yJ me
 by_cases h15 : i.1 = 15
 ·rw [if_pos (af.2 h15), if_pos h15]
 rw [if_neg (fun h => h15 (af.1 h)), if_neg h15]
 by_cases h16 : i.1 = 16
 ·rw [if_pos (af.2 h16), if_pos h16]
  have := Nk n t m i.2.1 ho hn
  show ((tK n (t, m) i.2.1).bind _) = _
  rw [this]; rfl
 rw [if_neg (fun h => h16 (af.1 h)), if_neg h16]
 by_cases h17 : i.1 = 17
 ·have := hb (.inl h17)
  rw [if_pos (af.2 h17), if_pos h17, if_pos (by rw [ag this.1, ag this.2]; rfl)]
 rw [if_neg (fun h => h17 (af.1 h)), if_neg h17]
 by_cases h18 : i.1 = 18
 ·have := hb (.inr h18)
  rw [if_pos (af.2 h18), if_pos h18, if_pos (by rw [ag this.1, ag this.2]; rfl)]
 rw [if_neg (fun h => h18 (af.1 h)), if_neg h18]
theorem Mn (n : Nat) (t : Tsk) (m : Img) (hl : t.code.length < n) (ho : t.outs.length < n) (hn : n < 1000000) (hb : ∀ i ∈ t.code, i.1 = 17 ∨ i.1 = 18 → 0 ≤ i.2.1 ∧ i.2.1 < (m.blocks.length : Int)) : yK n (t, m) = some (if t.code.all (me m t) = true then 0 else 12) := by
 unfold yK xh
 have := d7 (S := fun F => (eX (dM (dk (C_ q_)))) (tM n F))
  (fun f x r => ∃ i : Nat, x = (t.code, (t.code.length : Int), (i : Int), t.1, t.2.1, t.2.2.1, t.2.2.2.1, t.2.2.2.2.1, t.2.2.2.2.2.1, t.2.2.2.2.2.2, m) ∧ i ≤ t.code.length ∧ t.code.length < f + i ∧ r = if (t.code.drop i).all (me m t) = true then .inr ((), ((t.1, t.2.1, t.2.2.1, t.2.2.2.1, t.2.2.2.2.1, t.2.2.2.2.2.1, t.2.2.2.2.2.2, m.1, m.2.1, m.2.2.1, m.2.2.2.1, m.2.2.2.2.1, m.2.2.2.2.2.1, m.2.2.2.2.2.2, ()), ())) else .inl ((12, ()), ((t.1, t.2.1, t.2.2.1, t.2.2.2.1, t.2.2.2.2.1, t.2.2.2.2.2.1, t.2.2.2.2.2.2, m.1, m.2.1, m.2.2.1, m.2.2.2.1, m.2.2.2.2.1, m.2.2.2.2.2.1, m.2.2.2.2.2.2, ()), ()))) (fun x r ⟨i, _, h1, h2, _⟩ => by omega) (fun f x F hF r => ?_) n (t.code, (t.code.length : Int), 0, t.1, t.2.1, t.2.2.1, t.2.2.2.1, t.2.2.2.2.1, t.2.2.2.2.2.1, t.2.2.2.2.2.2, m) _ ⟨0, rfl, ao _, by omega, rfl⟩
 ·try dsimp only at this ⊢
  rw [this, bh]
  cases h : t.code.all (me m t) <;> rfl
 ·rintro ⟨i, rfl, h1, h2, rfl⟩
  show tM n F t.code (t.code.length : Int) (i : Int) t.1 t.2.1 t.2.2.1 t.2.2.2.1 t.2.2.2.2.1 t.2.2.2.2.2.1 t.2.2.2.2.2.2 m.1 m.2.1 m.2.2.1 m.2.2.2.1 m.2.2.2.2.1 m.2.2.2.2.2.1 m.2.2.2.2.2.2 = _
  unfold tM
  rcases ak i t.code.length with hlt | hge
  ·have hm : t.code.getD i (0, 0, 0) ∈ t.code := by rw [ar, av hlt]; exact aQ hlt
   rw [if_pos (ag (by omega)), if_pos (dc hlt), ai, Nl n t m _ ho hn (hb _ hm), dP (d := ((0 : Int), (0 : Int), (0 : Int))) hlt, b7]
   simp only [ae]
   cases e : me m t (t.code.getD i (0, 0, 0)) with
   | true =>
    rw [if_neg (by simp), di (by omega), aR]
    exact hF _ _ ⟨i + 1, rfl, by omega, by omega, rfl⟩
   | false => rfl
  ·have : i = t.code.length := by omega
   subst this
   rw [if_neg (by simp), aS]
   rfl
theorem J9 (l : List cY) (i : Nat) : (jV l i).length ≤ 1 := by unfold jV; split <;> simp
theorem BQ (l : List cY) : ∀ (r i : Nat), (gy l r i).length ≤ r
 | 0, i => by simp [gy]
 | r + 1, i => by
  have := BQ l r (i + 1)
  have h1 := J9 l i
  rw [show gy l (r + 1) i = jV l i ++ gy l r (i + 1) from rfl, aK]
  omega
theorem Ka (l : List cY) : (fj l).length ≤ l.length := by
 unfold fj
 split
 ·exact BQ l _ _
 ·simp
theorem Kb (n : Nat) (t : Tsk) (m : Img) (hl : t.code.length < n) (hn3 : 3 < n) (hn : n < 1000000) : tH n (t, m) = some (if d6 t.code ≠ 0 then d6 t.code else if fj t.code = t.blocks then 0 else 11) := by
 unfold tH
 rw [show mB n ((t, m) : Tsk × Img).1.2.2.2.2.2.2 = some (fj t.code, d6 t.code) from BF n t.code hl hn]
 simp only [ae]
 by_cases h0 : d6 t.code ≠ 0
 ·rw [if_pos (aj.2 h0), if_pos h0]
 rw [if_neg (fun h => h0 (aj.1 h)), if_neg h0]
 by_cases hlen : (fj t.code).length ≠ t.blocks.length
 ·rw [if_pos (show ((((fj t.code).length : Nat) : Int) != ((t.2.2.2.2.1.length : Nat) : Int)) = true from aj.2 (fun h => hlen (Int.ofNat.inj h))), if_neg (fun h => hlen (by rw [h]))]
 have hlen : (fj t.code).length = t.blocks.length := Decidable.not_not.1 hlen
 rw [if_neg (show ¬ ((((fj t.code).length : Nat) : Int) != ((t.2.2.2.2.1.length : Nat) : Int)) = true from fun h => aj.1 h (congrArg Int.ofNat hlen))]
 unfold tG
 have hk : (fj t.code).length ≤ t.code.length := Ka t.code
 generalize fj t.code = L at hlen hk
 have := d7 (S := fun F => (eX (dM (dk (C_ q_)))) (qc n F))
  (fun f x r => ∃ i : Nat, x = (L, (L.length : Int), (i : Int), t.1, t.2.1, t.2.2.1, t.2.2.2.1, t.2.2.2.2.1, t.2.2.2.2.2.1, t.2.2.2.2.2.2, m) ∧ i ≤ L.length ∧ L.length < f + i ∧ r = if L.drop i = t.blocks.drop i then .inr ((), ((t.1, t.2.1, t.2.2.1, t.2.2.2.1, t.2.2.2.2.1, t.2.2.2.2.2.1, t.2.2.2.2.2.2, m.1, m.2.1, m.2.2.1, m.2.2.2.1, m.2.2.2.2.1, m.2.2.2.2.2.1, m.2.2.2.2.2.2, ()), ())) else .inl ((11, ()), ((t.1, t.2.1, t.2.2.1, t.2.2.2.1, t.2.2.2.2.1, t.2.2.2.2.2.1, t.2.2.2.2.2.2, m.1, m.2.1, m.2.2.1, m.2.2.2.1, m.2.2.2.2.1, m.2.2.2.2.2.1, m.2.2.2.2.2.2, ()), ()))) (fun x r ⟨i, _, h1, h2, _⟩ => by omega) (fun f x F hF r => ?_) n (L, (L.length : Int), 0, t.1, t.2.1, t.2.2.1, t.2.2.2.1, t.2.2.2.2.1, t.2.2.2.2.2.1, t.2.2.2.2.2.2, m) _ ⟨0, rfl, ao _, by omega, rfl⟩
 ·try dsimp only at this ⊢
  rw [this, bh, bh]
  by_cases h : L = t.blocks
  ·rw [if_pos h, if_pos h]; rfl
  ·rw [if_neg h, if_neg h]; rfl
 ·rintro ⟨i, rfl, h1, h2, rfl⟩
  show qc n F L (L.length : Int) (i : Int) t.1 t.2.1 t.2.2.1 t.2.2.2.1 t.2.2.2.2.1 t.2.2.2.2.2.1 t.2.2.2.2.2.2 m.1 m.2.1 m.2.2.1 m.2.2.2.1 m.2.2.2.2.1 m.2.2.2.2.2.1 m.2.2.2.2.2.2 = _
  unfold qc
  rcases ak i L.length with hlt | hge
  ·have hlt2 : i < t.2.2.2.2.1.length := by have : t.blocks.length = t.2.2.2.2.1.length := rfl; omega
   rw [if_pos (ag (by omega)), if_pos (dc hlt), if_pos (dc hlt2), ai, dP (d := (0 : Int)) hlt, show t.blocks.drop i = t.2.2.2.2.1.getD i 0 :: t.blocks.drop (i + 1) from dP (d := (0 : Int)) hlt2]
   by_cases e : L.getD i 0 = t.2.2.2.2.1.getD i 0
   ·rw [if_neg (fun h => aj.1 h e), di (by omega), e]
    refine hF _ _ ⟨i + 1, rfl, by omega, by omega, ?_⟩
    simp only [bw, true_and]
   ·rw [if_pos (aj.2 e), if_neg (fun h => e (List.cons.inj h).1)]
  ·have : i = L.length := by omega
   subst this
   rw [if_neg (by simp), aS, hlen, aS]
   rfl
theorem rQ (n : Int) : IntKind.u64.wrap n = n % 18446744073709551616 := by simp [IntKind.wrap, IntKind.bits, IntKind.signed]
theorem Nm (n : Nat) (a : Int) : ∃ y, l8 n a = some y ∧ 0 ≤ y ∧ y < 18446744073709551616 := by
 unfold l8
 refine ⟨_, rfl, ?_, ?_⟩
 ·unfold bits
  rw [rQ]
  exact Int.emod_nonneg _ (by decide)
 ·unfold bits
  rw [rQ]
  exact Int.emod_lt_of_pos _ (by decide)
theorem Ew (n : Nat) : ∀ (f g : Nat) (o : List Int) (v : Int), 0 ≤ v → v < 128 ^ g → g < f → o.length + g < 1000 → ∃ o' v', it (fun F => q_ (iH n F)) f (o, v) = some (o', v') ∧ o'.length ≤ o.length + g
 | 0, g, o, v, h0, h1, hg, h2 => by omega
 | f + 1, g, o, v, h0, h1, hg, h2 => by
  have ih := Ew n f
  show ∃ o' v', iH n (it _ f) o v = some (o', v') ∧ _
  generalize it (fun F => q_ (iH n F)) f = F at ih ⊢
  unfold iH
  by_cases h : 128 ≤ v
  ·obtain _ | g := g
   ·rw [Int.pow_zero] at h1
    omega
   rw [if_pos (ag h), if_pos (by rw [ag (by omega), ag (by omega)]; rfl)]
   have hd : v.tdiv 128 = v / 128 := ce h0
   have hv : v / 128 < 128 ^ g := by
    rw [Int.pow_succ] at h1
    exact Int.ediv_lt_of_lt_mul (by decide) h1
   obtain ⟨o', v', h3, h4⟩ := ih g (o ++ [(IntKind.wrap .u8 (IntKind.wrap .u64 ((v.tmod 128) + 128)))]) ((IntKind.wrap .u64 (v.tdiv 128))) (by rw [rQ]; exact Int.emod_nonneg _ (by decide)) (by
    rw [rQ, hd]
    exact Int.lt_of_le_of_lt (by omega) hv) (by omega) (by rw [aK]; show _ + 1 + g < 1000; omega)
   rw [aK] at h4
   exact ⟨o', v', h3, by have : [IntKind.u8.wrap (IntKind.u64.wrap (v.tmod 128 + 128))].length = 1 := rfl; omega⟩
  ·rw [if_neg (by simpa using h)]
   exact ⟨o, v, rfl, by omega⟩
theorem uL (l : List Int) : (ey l).size = l.length := by
 unfold ey ByteArray.size
 simp
theorem Kc (n : Nat) (hn : 10 < n) (a : Int) : ∃ y, fz n a = some y ∧ y.size ≤ 11 := by
 obtain ⟨u, h1, h2, h3⟩ := Nm n a
 unfold fz m8
 rw [h1, ae]
 obtain ⟨o, v, h4, h5⟩ := Ew n n 10 [] u h2 (Int.lt_trans h3 (by decide)) hn (by decide)
 have h5 : o.length ≤ 10 := by simpa using h5
 rw [h4, ae]
 dsimp only
 rw [if_pos (by rw [ag (by omega), ag (by omega)]; rfl)]
 refine ⟨_, rfl, ?_⟩
 rw [uL, aK]
 show _ + 1 ≤ 11
 omega
theorem Nn (n : Nat) (x : cY) : ∃ y, lM n x.1 = some y := by
 have h := fv n x
 unfold db at h
 match h2 : lM n x.1 with
 | some y => exact ⟨y, rfl⟩
 | none => rw [h2] at h; cases h
theorem Ey (y : ByteArray) : ∀ (k i : Nat) (r : List UInt8), y.size - i = k → r.length ≤ (ByteArray.toList.loop y i r).length
 | 0, i, r, h => by
  unfold ByteArray.toList.loop
  rw [if_neg (by omega), List.length_reverse]
  exact aq _
 | k + 1, i, r, h => by
  unfold ByteArray.toList.loop
  rw [if_pos (by omega)]
  have := Ey y k (i + 1) (y.get! i :: r) (by omega)
  rw [aE] at this
  omega
theorem Ez : (ByteArray.mk #[]).toList = [] := by
 unfold ByteArray.toList ByteArray.toList.loop
 rw [if_neg (by decide)]
 rfl
theorem qG {y : ByteArray} (h : 0 < y.size) : (y.toList == (ByteArray.mk #[]).toList) = false := by
 rw [Ez, aP]
 intro h1
 have : (ByteArray.toList.loop y 0 []).length = 0 := by
  have : y.toList = ByteArray.toList.loop y 0 [] := rfl
  rw [← this, h1]
  rfl
 unfold ByteArray.toList.loop at this
 rw [if_pos h] at this
 have h2 := Ey y _ (0 + 1) [y.get! 0] rfl
 rw [this] at h2
 exact absurd h2 (Nat.not_succ_le_zero 0)
theorem BS (n : Nat) (hn : 10 < n) (x : cY) : ∃ y, eZ n x = some y ∧ y.size ≤ 30 ∧ (y.toList == (ByteArray.mk #[]).toList) = !dH x := by
 obtain ⟨o, ho⟩ := Nn n x
 obtain ⟨p, hp1, hp2⟩ := Kc n hn x.2.1
 obtain ⟨q, hq1, hq2⟩ := Kc n hn x.2.2
 have hs : (ey ([(IntKind.wrap .u8 x.1)])).size = 1 := uL _
 unfold eZ iU
 have hr : db n (x.1, x.2.1, x.2.2) = some (dH x) := fv n x
 rw [hr, ae]
 cases hb : dH x with
 | false => exact ⟨_, rfl, by decide, by rw [ba]; rfl⟩
 | true =>
  rw [if_neg (by simp), ho, hp1, hq1]
  simp only [ae]
  split
  ·rw [if_pos (ag (by omega))]
   split
   ·have : (ey ([(IntKind.wrap .u8 x.1)]) ++ p).size = 1 + p.size := by rw [bE, hs]
    rw [if_pos (ag (by omega))]
    refine ⟨_, rfl, ?_, ?_⟩
    ·rw [bE, this]; omega
    ·exact qG (by rw [bE, this]; omega)
   ·have : (ey ([(IntKind.wrap .u8 x.1)]) ++ p).size = 1 + p.size := by rw [bE, hs]
    exact ⟨_, rfl, by omega, qG (by omega)⟩
  ·split
   ·rw [if_pos (ag (by omega))]
    have : (ey ([(IntKind.wrap .u8 x.1)]) ++ q).size = 1 + q.size := by rw [bE, hs]
    exact ⟨_, rfl, by omega, qG (by omega)⟩
   ·exact ⟨_, rfl, by omega, qG (by omega)⟩
def Says (o : Option Bool) (p : Prop) : Prop := ∃ b, o = some b ∧ (b = true ↔ p)
theorem Says.dec {p : Prop} [Decidable p] : Says (some (decide p)) p := ⟨_, rfl, bY⟩
theorem Says.and {o : Option Bool} {f : Bool → Option Bool} {p q : Prop} (h : Says o p) (k : Says (f true) q) (g : f false = some false) : Says (o.bind f) (p ∧ q) := by
 obtain ⟨b, h1, h2⟩ := h
 obtain ⟨c, k1, k2⟩ := k
 rw [h1]
 cases b with
 | true => exact ⟨c, k1, by rw [k2]; exact ⟨fun e => ⟨h2.1 rfl, e⟩, fun e => e.2⟩⟩
 | false => exact ⟨false, g, ⟨fun e => absurd e (by decide), fun e => absurd (h2.2 e.1) (by decide)⟩⟩
theorem Says.iff {o : Option Bool} {p q : Prop} (h : Says o p) (k : p ↔ q) : Says o q := by
 obtain ⟨b, h1, h2⟩ := h
 exact ⟨b, h1, h2.trans k⟩
theorem Says.no {p : Prop} (h : ¬ p) : Says (some false) p := ⟨false, rfl, fun e => absurd e (by decide), fun e => absurd e h⟩
def Rises (e : Int) : Int → List Int → Prop
 | _, [] => True
 | b, x :: l => b < x ∧ x < e ∧ Rises e x l
theorem EA (n : Nat) (l : List Int) (e : Int) (he : 0 ≤ e) (hen : e + 1 < n) (hn : n < 1000000) : Says (iw n l e) (Rises e (-1) l) := by
 unfold iw ki
 have := d7 (S := fun F => (dk (C_ q_)) (gR n F)) (fun f x r => ∃ (i : Nat) (b : Int) (c : Bool), x = (e, b, l, (l.length : Int), (i : Int)) ∧ (i ≤ l.length ∧ (i : Int) ≤ b + 1 ∧ b < e) ∧ e < b + f ∧ (c = true ↔ Rises e b (l.drop i)) ∧ r = if c = true then .inr ((), ()) else .inl ((false, ()), ())) (fun x r ⟨i, b, c, _, h1, h2, _⟩ => by omega) (fun f x F hF r => ?_) n (e, -1, l, (l.length : Int), 0)
 ·classical
  refine ⟨decide (Rises e (-1) l), ?_, bY⟩
  rw [this _ ⟨0, -1, decide (Rises e (-1) l), rfl, ⟨ao _, by omega, by omega⟩, by omega, bY, rfl⟩]
  cases decide (Rises e (-1) l) <;> rfl
 ·rintro ⟨i, b, c, rfl, h1, h2, hc, rfl⟩
  show gR n F e b l (l.length : Int) (i : Int) = _
  unfold gR
  rcases ak i l.length with hlt | hge
  ·rw [dP (d := (0 : Int)) hlt] at hc
   rw [if_pos (ag (by omega)), if_pos (dc hlt), ai, di (by omega)]
   have hno : ∀ (h : ¬ (b < l.getD i 0 ∧ l.getD i 0 < e)), c = false := fun h => by
    cases c with
    | false => rfl
    | true => exact absurd ⟨(hc.1 rfl).1, (hc.1 rfl).2.1⟩ h
   by_cases g1 : l.getD i 0 ≤ b
   ·rw [if_pos (ag g1), hno (by omega)]; rfl
   rw [if_neg (by simpa using g1)]
   by_cases g2 : l.getD i 0 ≥ e
   ·rw [if_pos (ag g2), hno (by omega)]; rfl
   rw [if_neg (by simpa using g2)]
   exact hF _ _ ⟨i + 1, l.getD i 0, c, rfl, by omega, by omega, hc.trans ⟨fun h => h.2.2, fun h => ⟨by omega, by omega, h⟩⟩, rfl⟩
  ·have : i = l.length := by omega
   subst this
   rw [aS] at hc
   rw [if_neg (by simp), if_pos (hc.2 trivial)]
theorem Rises.len {e : Int} : ∀ {l : List Int} {b : Int}, Rises e b l → b < e → (l.length : Int) ≤ e - 1 - b
 | [], b, _, h => by simp; omega
 | x :: l, b, h, h1 => by
  have := Rises.len h.2.2 h.2.1
  have := h.1
  rw [aE]
  omega
theorem Rises.mem {e : Int} : ∀ {l : List Int} {b : Int}, Rises e b l → ∀ x ∈ l, b < x ∧ x < e
 | x :: l, b, h, y, hy => by
  rcases aA.1 hy with rfl | hy
  ·exact ⟨h.1, h.2.1⟩
  ·have := Rises.mem h.2.2 y hy
   have := h.1
   omega
theorem Fj {y : ByteArray} (h : y.size = 0) : y.toList = [] := by
 unfold ByteArray.toList ByteArray.toList.loop
 rw [if_neg (by omega)]
 rfl
def xM (n : Nat) (s : ByteArray) (l : List cY) : ByteArray := l.foldl (fun s x => s ++ (eZ n x).getD (ByteArray.mk #[])) s
theorem Fk (n : Nat) (hn : 10 < n) {x : cY} (hx : dH x = true) : ∃ y, eZ n x = some y ∧ 1 ≤ y.size ∧ y.size ≤ 30 := by
 obtain ⟨y, h1, h2, h3⟩ := BS n hn x
 refine ⟨y, h1, ?_, h2⟩
 rcases bP y.size with h | h
 ·rw [Fj h, Ez, hx] at h3
  exact absurd h3 (by decide)
 ·exact h
theorem BT (n : Nat) (hn : 10 < n) : ∀ (l : List cY) (s : ByteArray), (∀ x ∈ l, dH x = true) → s.size + l.length ≤ (xM n s l).size
 | [], s, _ => aq _
 | x :: l, s, h => by
  obtain ⟨y, h1, h2, _⟩ := Fk n hn (h x aB)
  have := BT n hn l (s ++ (eZ n x).getD (ByteArray.mk #[])) fun y hy => h y (az _ hy)
  rw [bE, h1, bp] at this
  show _ ≤ (xM n (s ++ (eZ n x).getD (ByteArray.mk #[])) l).size
  rw [h1, bp, aE]
  omega
def EB (l : List cY) : Prop := 1 ≤ l.length ∧ l.length ≤ 200 ∧ ∀ x ∈ l, dH x = true
theorem Np (n : Nat) (hn : 200 < n) (l : List cY) : Says ((mA n l).bind fun y4 => some (!(y4.toList == (ByteArray.mk #[]).toList))) (EB l) := by
 unfold mA n7
 by_cases hl : ¬ l.length ≤ 200
 ·rw [if_pos (ag (by omega)), ae, ba]
  exact Says.no (fun h => hl h.2.1)
 have hl : l.length ≤ 200 := Decidable.not_not.1 hl
 rw [if_neg (by simp; omega)]
 have := d7 (S := fun F => (dk q_) (kU n F)) (fun f x r => ∃ (i : Nat) (s : ByteArray), x = (s, l, (l.length : Int), (i : Int)) ∧ i ≤ l.length ∧ l.length < f + i ∧ s.size ≤ 30 * i ∧ r = if (l.drop i).all dH = true then .inr ((xM n s (l.drop i), ()), ()) else .inl ((ByteArray.mk #[], ()), ())) (fun x r ⟨i, s, _, h1, h2, _⟩ => by omega) (fun f x F hF r => ?_) n (ByteArray.mk #[], l, (l.length : Int), 0) _ ⟨0, _, rfl, ao _, by omega, by decide, rfl⟩
 ·rw [this, bh, ae]
  cases h : l.all dH with
  | true =>
   have hr : ∀ x ∈ l, dH x = true := aJ.1 h
   have hs := BT n (by omega) l (ByteArray.mk #[]) hr
   refine Says.iff (p := 1 ≤ l.length) ?_ ⟨fun h => ⟨h, hl, hr⟩, fun h => h.1⟩
   refine ⟨_, rfl, ?_⟩
   show (!((xM n (ByteArray.mk #[]) l).toList == (ByteArray.mk #[]).toList)) = true ↔ _
   by_cases h1 : 1 ≤ l.length
   ·rw [qG (by omega)]
    exact ⟨fun _ => h1, fun _ => rfl⟩
   ·have : l = [] := List.length_eq_zero_iff.1 (by omega)
    subst this
    rw [show xM n (ByteArray.mk #[]) [] = ByteArray.mk #[] from rfl, ba]
    exact ⟨fun h => absurd h (by decide), fun h => absurd h h1⟩
  | false =>
   rw [if_neg (by decide)]
   show Says (some (!((ByteArray.mk #[]).toList == (ByteArray.mk #[]).toList))) _
   rw [ba]
   exact Says.no (fun k => by rw [aJ.2 k.2.2] at h; cases h)
 ·rintro ⟨i, s, rfl, h1, h2, hs, rfl⟩
  show kU n F s l (l.length : Int) (i : Int) = _
  unfold kU
  rcases ak i l.length with hlt | hge
  ·obtain ⟨y, e1, e2, e3⟩ := BS n (by omega) (l.getD i (0, 0, 0))
   rw [if_pos (ag (by omega)), if_pos (dc hlt), ai, di (by omega), show eZ n ((l.getD i (0, 0, 0)).1, (l.getD i (0, 0, 0)).2.1, (l.getD i (0, 0, 0)).2.2) = some y from e1, ae, e3, dP (d := ((0 : Int), (0 : Int), (0 : Int))) hlt, b7]
   cases hb : dH (l.getD i (0, 0, 0)) with
   | false => rfl
   | true =>
    rw [if_neg (by decide), if_pos (ag (by omega)), aR]
    refine hF _ _ ⟨i + 1, _, rfl, by omega, by omega, by rw [bE]; omega, ?_⟩
    rw [show xM n s (l.getD i (0, 0, 0) :: l.drop (i + 1)) = xM n (s ++ (eZ n (l.getD i (0, 0, 0))).getD (ByteArray.mk #[])) (l.drop (i + 1)) from rfl, e1, bp]
  ·have : i = l.length := by omega
   subst this
   rw [if_neg (by simp), aS]
   rfl
def zq (t : Tsk) : Prop := (1 ≤ t.1 ∧ t.1 ≤ 100) ∧ (1 ≤ t.2.1 ∧ t.2.1 ≤ 1048576) ∧ (1 ≤ t.2.2.1 ∧ t.2.2.1 ≤ t.2.1) ∧ (0 ≤ t.2.2.2.1 ∧ t.2.2.2.1 ≤ 1048576)
def lw (m : Img) (t : Tsk) : Prop := zq t ∧ Rises m.blocks.length (-1) t.blocks ∧ Rises m.safe.length (-1) t.outs ∧ EB t.code
theorem HC (n : Nat) (t : Tsk) : Says ((eo n t).bind fun y1 => some (Sh.eqT (.arr 4 (.int .i64)) y1 [t.1, t.2.1, t.2.2.1, t.2.2.2.1])) (zq t) := by
 obtain ⟨a, b, c, d, t⟩ := t
 unfold eo zq
 refine ⟨_, rfl, ?_⟩
 dsimp only
 rw [show ∀ x1 x2 x3 x4 y1 y2 y3 y4 : Int, Sh.eqT (.arr 4 (.int .i64)) [x1, x2, x3, x4] [y1, y2, y3, y4] = (x1 == y1 && (x2 == y2 && (x3 == y3 && (x4 == y4 && true)))) from fun _ _ _ _ _ _ _ _ => rfl]
 simp only [am, af, bc]
 constructor
 ·rintro ⟨h1, h2, h3, h4⟩
  repeat' split at h1
  all_goals (repeat' split at h4)
  all_goals (rw [h2] at h3; repeat' split at h2)
  all_goals (repeat' split at h3)
  all_goals omega
 ·rintro ⟨⟨h1, h2⟩, ⟨h3, h4⟩, ⟨h5, h6⟩, h7, h8⟩
  have e : (if (if 1048576 < b then 1048576 else b) > 1 then (if 1048576 < b then 1048576 else b) else 1) = b := by
   rw [if_neg (show ¬ 1048576 < b by omega)]; split <;> omega
  rw [e, if_neg (show ¬ 100 < a by omega), if_neg (show ¬ b < c by omega), if_neg (show ¬ 1048576 < d by omega)]
  refine ⟨?_, rfl, ?_, ?_⟩ <;> (split <;> omega)
theorem Cp (n : Nat) (hn : 200 < n) (hn2 : n < 1000000) (m : Img) (t : Tsk) (hb : m.blocks.length + 1 < n) (ho : m.safe.length + 1 < n) : Says (fC n t m) (lw m t) := by
 obtain ⟨b, h1, h2⟩ := HC n t
 unfold fC
 unfold Option.bind at h1
 rw [show eo n (t.1, t.2.1, t.2.2.1, t.2.2.2.1, t.2.2.2.2.1, t.2.2.2.2.2.1, t.2.2.2.2.2.2) = eo n t from rfl]
 match hy : eo n t with
 | none => rw [hy] at h1; cases h1
 | some y =>
  rw [hy] at h1
  have h1 : Sh.eqT (.arr 4 (.int .i64)) y [t.1, t.2.1, t.2.2.1, t.2.2.2.1] = b := au h1
  rw [ae, h1]
  cases b with
  | false => exact Says.no (fun h => by have := h2.2 h.1; cases this)
  | true =>
   rw [if_neg (by decide)]
   have hN : zq t := h2.1 rfl
   by_cases h0 : t.code.length = 0
   ·rw [if_pos (show (((t.2.2.2.2.2.2.length : Nat) : Int) == 0) = true from af.2 (by have : t.code.length = t.2.2.2.2.2.2.length := rfl; omega))]
    exact Says.no (fun h => by have := h.2.2.2.1; omega)
   ·rw [if_neg (show ¬ (((t.2.2.2.2.2.2.length : Nat) : Int) == 0) = true from fun h => h0 (by have h := af.1 h; have : t.code.length = t.2.2.2.2.2.2.length := rfl; omega))]
    refine Says.iff (p := Rises m.blocks.length (-1) t.blocks ∧ Rises m.safe.length (-1) t.outs ∧ EB t.code) ?_ ⟨fun h => ⟨hN, h⟩, fun h => h.2⟩
    exact Says.and (EA n t.blocks (m.blocks.length : Int) (by omega) (by omega) hn2) (Says.and (EA n t.outs (m.safe.length : Int) (by omega) (by omega) hn2) (Np n hn t.code) rfl) rfl
def apart : List Int → List Int → Bool
 | _, [] => true
 | s, x :: l => !s.contains x && apart (s ++ [x]) l
def mf : List Int → List Int → List Int
 | s, [] => s
 | s, x :: l => if s.contains x = true then s else mf (s ++ [x]) l
theorem BU : ∀ {l s : List Int}, apart s l = true → mf s l = s ++ l
 | [], s, _ => by simp [mf]
 | x :: l, s, h => by
  unfold apart at h
  rw [am, b8] at h
  unfold mf
  rw [if_neg (by rw [h.1]; decide), BU h.2, aM]
  rfl
theorem uM : ∀ {l k s : List Int}, apart s (l ++ k) = (apart s l && apart (s ++ l) k)
 | [], k, s => by simp [apart]
 | x :: l, k, s => by
  rw [List.cons_append, show apart s (x :: (l ++ k)) = (!s.contains x && apart (s ++ [x]) (l ++ k)) from rfl, show apart s (x :: l) = (!s.contains x && apart (s ++ [x]) l) from rfl, uM, Bool.and_assoc, aM]
  rfl
def own (s : List Int) : List Bool := (List.range 16).map fun i => s.contains ((i : Nat) : Int)
theorem Nq (s : List Int) {o : Int} (h0 : 0 ≤ o) (h1 : o < 16) : (own s).getD o.toNat false = s.contains o := by
 unfold own
 rw [ar, bz, cc (by omega)]
 simp [Int.toNat_of_nonneg h0]
theorem Nr (s : List Int) {o : Int} (h0 : 0 ≤ o) (h1 : o < 16) : (own s).set o.toNat true = own (s ++ [o]) := by
 apply List.ext_getElem
 ·simp [own]
 ·intro i h2 h3
  have hi : i < 16 := by simpa [own] using h3
  rw [List.getElem_set]
  unfold own
  simp only [List.getElem_map, List.getElem_range, List.contains_append]
  by_cases h : o.toNat = i
  ·rw [if_pos h]
   have : ((i : Nat) : Int) = o := by omega
   rw [this]
   simp
  ·rw [if_neg h]
   have : ((i : Nat) : Int) ≠ o := by omega
   simp [this]
theorem HD (n : Nat) (m : Img) (T : List Tsk) (a k : Int) (l : List Int) (hl : l.length < n) (hn : n < 1000000) (hb : ∀ x ∈ l, 0 ≤ x ∧ x < 16) (s : List Int) : rC n (T, a, k, l, (l.length : Int), 0, m.1, m.2.1, m.2.2.1, m.2.2.2.1, m.2.2.2.2.1, m.2.2.2.2.2.1, m.2.2.2.2.2.2, own s) = some (if apart s l = true then .inr ((T, a, k, ()), ((m.1, m.2.1, m.2.2.1, m.2.2.2.1, m.2.2.2.2.1, m.2.2.2.2.2.1, m.2.2.2.2.2.2, ()), (own (mf s l), ()), ())) else .inl ((false, ()), ((m.1, m.2.1, m.2.2.1, m.2.2.2.1, m.2.2.2.2.1, m.2.2.2.2.2.1, m.2.2.2.2.2.2, ()), (own (mf s l), ()), ()))) := by
 unfold rC
 refine d7 (S := fun F => (eX (dM q_)) (tg n F))
  (fun f x r => ∃ (i : Nat) (s : List Int), x = (T, a, k, l, (l.length : Int), (i : Int), m.1, m.2.1, m.2.2.1, m.2.2.2.1, m.2.2.2.2.1, m.2.2.2.2.2.1, m.2.2.2.2.2.2, own s) ∧ i ≤ l.length ∧ l.length < f + i ∧ r = if apart s (l.drop i) = true then .inr ((T, a, k, ()), ((m.1, m.2.1, m.2.2.1, m.2.2.2.1, m.2.2.2.2.1, m.2.2.2.2.2.1, m.2.2.2.2.2.2, ()), (own (mf s (l.drop i)), ()), ())) else .inl ((false, ()), ((m.1, m.2.1, m.2.2.1, m.2.2.2.1, m.2.2.2.2.1, m.2.2.2.2.2.1, m.2.2.2.2.2.2, ()), (own (mf s (l.drop i)), ()), ()))) (fun x r ⟨i, s, _, h1, h2, _⟩ => by omega) (fun f x F hF r => ?_) n _ _ ⟨0, s, rfl, ao _, by omega, rfl⟩
 rintro ⟨i, s, rfl, h1, h2, rfl⟩
 show tg n F T a k l (l.length : Int) (i : Int) m.1 m.2.1 m.2.2.1 m.2.2.2.1 m.2.2.2.2.1 m.2.2.2.2.2.1 m.2.2.2.2.2.2 (own s) = _
 unfold tg
 rcases ak i l.length with hlt | hge
 ·have hm : l.getD i 0 ∈ l := by rw [ar, av hlt]; exact aQ hlt
  obtain ⟨h3, h4⟩ := hb _ hm
  have h5 : (decide (0 ≤ l.getD i 0) && decide (l.getD i 0 < 16)) = true := by rw [ag h3, ag h4]; rfl
  rw [if_pos (ag (by omega)), if_pos (dc hlt), ai, if_pos h5, Nq s h3 h4, dP (d := (0 : Int)) hlt, di (by omega)]
  unfold apart mf
  cases h : s.contains (l.getD i 0) with
  | true => rfl
  | false =>
   rw [if_neg (show ¬ (false = true) by decide), if_neg (show ¬ (false = true) by decide), if_pos h5, Nr s h3 h4, Bool.not_false, aR]
   exact hF _ _ ⟨i + 1, _, rfl, by omega, by omega, rfl⟩
 ·have : i = l.length := by omega
  subst this
  rw [if_neg (by simp), aS]
  rfl
def TasksOk (m : Img) : List Int → List Tsk → Prop
 | _, [] => True
 | s, t :: l => lw m t ∧ apart s t.outs = true ∧ TasksOk m (s ++ t.outs) l
theorem TasksOk.all {m : Img} : ∀ {l : List Tsk} {s : List Int}, TasksOk m s l ↔ (∀ t ∈ l, lw m t) ∧ apart s (l.flatMap Tsk.outs) = true
 | [], s => by simp [TasksOk, apart]
 | t :: l, s => by
  unfold TasksOk
  rw [TasksOk.all, cA, uM, am, List.forall_mem_cons]
  exact ⟨fun ⟨h1, h2, h3, h4⟩ => ⟨⟨h1, h3⟩, h2, h4⟩, fun ⟨⟨h1, h3⟩, h2, h4⟩ => ⟨h1, h2, h3, h4⟩⟩
open Classical in
def zr (m : Img) : List Int → List Tsk → List Int
 | s, [] => s
 | s, t :: l => if lw m t then (if apart s t.outs = true then zr m (s ++ t.outs) l else mf s t.outs) else s
theorem HE (n : Nat) (hn : 200 < n) (hn2 : n < 1000000) (m : Img) (hbl : m.blocks.length + 1 < n) (hs : m.safe.length ≤ 16) (hT : m.tasks.length < n) :
  Says ((rD n (m.tasks, (m.tasks.length : Int), 0, m.1, m.2.1, m.2.2.1, m.2.2.2.1, m.2.2.2.2.1, m.2.2.2.2.2.1, m.2.2.2.2.2.2, own [])).bind fun y => Sum.elim (fun z => some z.1.1) (fun z => some true) y) (TasksOk m [] m.tasks) := by
 unfold rD
 have hit := d7 (S := fun F => (eX (C_ q_)) (th n F))
  (fun f x r => ∃ (i : Nat) (s : List Int) (c : Bool), x = (m.tasks, (m.tasks.length : Int), (i : Int), m.1, m.2.1, m.2.2.1, m.2.2.2.1, m.2.2.2.2.1, m.2.2.2.2.2.1, m.2.2.2.2.2.2, own s) ∧ i ≤ m.tasks.length ∧ m.tasks.length < f + i ∧ (c = true ↔ TasksOk m s (m.tasks.drop i)) ∧ r = if c = true then .inr ((), ((m.1, m.2.1, m.2.2.1, m.2.2.2.1, m.2.2.2.2.1, m.2.2.2.2.2.1, m.2.2.2.2.2.2, ()), (own (zr m s (m.tasks.drop i)), ()), ())) else .inl ((false, ()), ((m.1, m.2.1, m.2.2.1, m.2.2.2.1, m.2.2.2.2.1, m.2.2.2.2.2.1, m.2.2.2.2.2.2, ()), (own (zr m s (m.tasks.drop i)), ()), ()))) (fun x r ⟨i, s, c, _, h1, h2, _⟩ => by omega) (fun f x F hF r => ?_) n (m.tasks, (m.tasks.length : Int), 0, m.1, m.2.1, m.2.2.1, m.2.2.2.1, m.2.2.2.2.1, m.2.2.2.2.2.1, m.2.2.2.2.2.2, own [])
 ·have := Classical.propDecidable (TasksOk m [] m.tasks)
  refine ⟨decide (TasksOk m [] m.tasks), ?_, bY⟩
  rw [hit _ ⟨0, [], decide (TasksOk m [] m.tasks), rfl, ao _, by omega, bY, rfl⟩, ae]
  cases decide (TasksOk m [] m.tasks) <;> rfl
 ·rintro ⟨i, s, c, rfl, h1, h2, hc, rfl⟩
  show th n F m.tasks (m.tasks.length : Int) (i : Int) m.1 m.2.1 m.2.2.1 m.2.2.2.1 m.2.2.2.2.1 m.2.2.2.2.2.1 m.2.2.2.2.2.2 (own s) = _
  unfold th
  rcases ak i m.tasks.length with hlt | hge
  ·rw [dP (d := ((0 : Int), (0 : Int), (0 : Int), (0 : Int), ([] : List Int), ([] : List Int), ([] : List cY))) hlt] at hc ⊢
   rw [if_pos (ag (by omega)), if_pos (dc hlt), ai]
   generalize m.tasks.getD i (0, 0, 0, 0, [], [], []) = t at hc ⊢
   obtain ⟨b, e1, e2⟩ := Cp n hn hn2 m t hbl (by omega)
   rw [show fC n (t.1, t.2.1, t.2.2.1, t.2.2.2.1, t.2.2.2.2.1, t.2.2.2.2.2.1, t.2.2.2.2.2.2) (m.1, m.2.1, m.2.2.1, m.2.2.2.1, m.2.2.2.2.1, m.2.2.2.2.2.1, m.2.2.2.2.2.2) = some b from e1, ae]
   cases b with
   | false =>
    have ht : ¬ lw m t := fun h => by have := e2.2 h; cases this
    have hc0 : c = false := by cases c with
     | false => rfl
     | true => exact absurd (hc.1 rfl).1 ht
    rw [hc0]
    unfold zr
    rw [if_neg ht]
    rfl
   | true =>
    have ht : lw m t := e2.1 rfl
    have hr := ht.2.2.1
    have hlen := hr.len (by omega)
    have hmem := hr.mem
    rw [if_neg (by decide), HD n m m.tasks _ _ t.outs (by omega) hn2 (fun x hx => by have := hmem x hx; omega) s, ae]
    unfold zr
    rw [if_pos ht]
    cases ha : apart s t.outs with
    | false =>
     have hc0 : c = false := by cases c with
      | false => rfl
      | true => have := (hc.1 rfl).2.1; rw [ha] at this; cases this
     rw [hc0]
     rfl
    | true =>
     rw [if_pos rfl, BU ha, if_pos rfl]
     dsimp only [Sum.elim_inr]
     rw [di (by omega)]
     exact hF _ _ ⟨i + 1, s ++ t.outs, c, rfl, by omega, by omega, hc.trans ⟨fun h => h.2.2, fun h => ⟨ht, ha, h⟩⟩, rfl⟩
  ·have : i = m.tasks.length := by omega
   subst this
   rw [aS] at hc ⊢
   rw [if_neg (by simp), if_pos (hc.2 trivial)]
   rfl
def AH (m : Img) : Prop := (0 ≤ m.1 ∧ m.1 ≤ 100) ∧ (1 ≤ m.2.1 ∧ m.2.1 ≤ 100) ∧ (1 ≤ m.2.2.1 ∧ m.2.2.1 ≤ 100) ∧ (0 ≤ m.2.2.2.1 ∧ m.2.2.2.1 ≤ 16) ∧ m.safe.length ≤ 16 ∧ m.blocks.length ≤ 8 ∧ (1 ≤ m.tasks.length ∧ m.tasks.length ≤ 8)
def lY (l : List (List Int)) : Prop := ∀ b ∈ l, 1 ≤ b.length ∧ b.length ≤ 8
def RightP (m : Img) : Prop := AH m ∧ lY m.blocks ∧ TasksOk m [] m.tasks
theorem HF (n : Nat) (hn2 : n < 1000000) (m : Img) (hT : m.blocks.length < n) (F : Option Bool) :
  ∃ c, (c = true ↔ lY m.blocks) ∧ rB n (m.blocks, (m.blocks.length : Int), 0, m.1, m.2.1, m.2.2.1, m.2.2.2.1, m.2.2.2.2.1, m.2.2.2.2.2.1, m.2.2.2.2.2.2) = some (if c = true then .inr ((), ((m.1, m.2.1, m.2.2.1, m.2.2.2.1, m.2.2.2.2.1, m.2.2.2.2.2.1, m.2.2.2.2.2.2, ()), ())) else .inl ((false, ()), ((m.1, m.2.1, m.2.2.1, m.2.2.2.1, m.2.2.2.2.1, m.2.2.2.2.2.1, m.2.2.2.2.2.2, ()), ()))) := by
 unfold rB
 have := Classical.propDecidable (lY m.blocks)
 refine ⟨decide (lY m.blocks), bY, ?_⟩
 refine d7 (S := fun F => (eX q_) (tf n F))
  (fun f x r => ∃ (i : Nat) (c : Bool), x = (m.blocks, (m.blocks.length : Int), (i : Int), m.1, m.2.1, m.2.2.1, m.2.2.2.1, m.2.2.2.2.1, m.2.2.2.2.2.1, m.2.2.2.2.2.2) ∧ i ≤ m.blocks.length ∧ m.blocks.length < f + i ∧ (c = true ↔ lY (m.blocks.drop i)) ∧ r = if c = true then .inr ((), ((m.1, m.2.1, m.2.2.1, m.2.2.2.1, m.2.2.2.2.1, m.2.2.2.2.2.1, m.2.2.2.2.2.2, ()), ())) else .inl ((false, ()), ((m.1, m.2.1, m.2.2.1, m.2.2.2.1, m.2.2.2.2.1, m.2.2.2.2.2.1, m.2.2.2.2.2.2, ()), ()))) (fun x r ⟨i, c, _, h1, h2, _⟩ => by omega) (fun f x F hF r => ?_) n _ _ ⟨0, decide (lY m.blocks), rfl, ao _, by omega, bY, rfl⟩
 rintro ⟨i, c, rfl, h1, h2, hc, rfl⟩
 show tf n F m.blocks (m.blocks.length : Int) (i : Int) m.1 m.2.1 m.2.2.1 m.2.2.2.1 m.2.2.2.2.1 m.2.2.2.2.2.1 m.2.2.2.2.2.2 = _
 unfold tf
 rcases ak i m.blocks.length with hlt | hge
 ·rw [dP (d := ([] : List Int)) hlt] at hc
  rw [if_pos (ag (by omega)), if_pos (dc hlt), ai]
  generalize m.blocks.getD i [] = b at hc ⊢
  have hc : c = true ↔ (1 ≤ b.length ∧ b.length ≤ 8) ∧ lY (m.blocks.drop (i + 1)) := hc.trans List.forall_mem_cons
  have hno : ∀ (h : ¬ (1 ≤ b.length ∧ b.length ≤ 8)), c = false := fun h => by
   cases c with
   | false => rfl
   | true => exact absurd (hc.1 rfl).1 h
  by_cases g1 : b.length = 0
  ·rw [if_pos (af.2 (by omega)), hno (by omega)]; rfl
  rw [if_neg (fun h => g1 (by have := af.1 h; omega))]
  by_cases g2 : b.length ≤ 8
  ·rw [if_neg (by simp; omega), di (by omega)]
   exact hF _ _ ⟨i + 1, c, rfl, by omega, by omega, hc.trans ⟨fun h => h.2, fun h => ⟨by omega, h⟩⟩, rfl⟩
  ·rw [if_pos (ag (by omega)), hno (by omega)]; rfl
 ·have : i = m.blocks.length := by omega
  subst this
  rw [aS] at hc
  rw [if_neg (by simp), if_pos (hc.2 (fun b hb => by cases hb))]
theorem Qq {a b c d e f g : Bool} {A B C D E F G : Prop} (ha : a = true ↔ A) (hb : b = true ↔ B) (hc : c = true ↔ C) (hd : d = true ↔ D) (he : e = true ↔ E) (hf : f = true ↔ F) (hg : g = true ↔ G) : (a && (b && (c && (d && (e && (f && g)))))) = true ↔ A ∧ B ∧ C ∧ D ∧ E ∧ F ∧ G := by
 simp only [am, ha, hb, hc, hd, he, hf, hg]
theorem uN (n : Nat) (hn : 200 < n) (hn2 : n < 1000000) (m : Img) : Says (kV n m) (RightP m) := by
 unfold kV
 have hN : ∀ {b : Bool}, (b = true ↔ AH m) → ∀ {o : Option Bool}, (AH m → Says o (RightP m)) → Says (if (!b) = true then some false else o) (RightP m) := fun {b} hb {o} ho => by
  cases b with
  | false => exact Says.no (fun h => by have := hb.2 h.1; cases this)
  | true => exact ho (hb.1 rfl)
 refine hN ?_ ?_
 ·refine Qq ?_ ?_ ?_ ?_ ?_ ?_ ?_
  all_goals (rw [af])
  ·generalize m.1 = a; constructor <;> intro h <;> (repeat' split at *) <;> omega
  ·generalize m.2.1 = a; constructor <;> intro h <;> (repeat' split at *) <;> omega
  ·generalize m.2.2.1 = a; constructor <;> intro h <;> (repeat' split at *) <;> omega
  ·generalize m.2.2.2.1 = a; constructor <;> intro h <;> (repeat' split at *) <;> omega
  ·show (m.safe.length : Int) = _ ↔ _
   generalize m.safe.length = a; constructor <;> intro h <;> (repeat' split at *) <;> omega
  ·show (m.blocks.length : Int) = _ ↔ _
   generalize m.blocks.length = a; constructor <;> intro h <;> (repeat' split at *) <;> omega
  ·show (m.tasks.length : Int) = _ ↔ _
   generalize m.tasks.length = a; constructor <;> intro h <;> (repeat' split at *) <;> omega
 ·intro hI
  obtain ⟨_, _, _, _, h5, h6, h7⟩ := id hI
  obtain ⟨c, hc, e⟩ := HF n hn2 m (by omega) none
  rw [e, ae]
  cases c with
  | false => exact Says.no (fun h => by have := hc.2 h.2.1; cases this)
  | true => exact (HE n hn hn2 m (by omega) h5 (by omega)).iff ⟨fun h => ⟨hI, hc.1 rfl, h⟩, fun h => h.2.2⟩
def EC (m : Img) : Prop := m.safe.length + m.blocks.length + m.tasks.length ≤ 80 ∧ ∀ t ∈ m.tasks, t.code.length ≤ 4019
theorem BV (l : List cY) : ∀ (r i p : Nat), i ≤ p → p < i + r → dd l p = 23 → dJ l p ∈ gy l r i
 | 0, i, p, h1, h2, h3 => by omega
 | r + 1, i, p, h1, h2, h3 => by
  rw [show gy l (r + 1) i = jV l i ++ gy l r (i + 1) from rfl, ay]
  by_cases h : i = p
  ·subst h
   left
   unfold jV
   rw [if_pos h3]
   exact aB
  ·exact .inr (BV l r (i + 1) p (by omega) (by omega) h3)
theorem HG {l : List cY} (h : d6 l = 0) {i : Nat} (hi : i < l.length) (ho : dd l i = 17 ∨ dd l i = 18) : dJ l i ∈ fj l := by
 have hb := xL h hi
 unfold jf at hb
 rw [if_neg (by omega), if_pos ho, Bool.not_eq_false'] at hb
 unfold uG at hb
 obtain ⟨k, h1, h2⟩ := anyB_iff.1 hb
 simp only [am, af] at h2
 unfold fj
 rw [if_pos h, ← h2.2.2]
 exact BV l _ _ k (ao _) (by omega) h2.2.1
theorem Cq {m : Img} {t : Tsk} (hl : d6 t.code = 0) (hb : fj t.code = t.blocks) (ht : lw m t) : ∀ i ∈ t.code, i.1 = 17 ∨ i.1 = 18 → 0 ≤ i.2.1 ∧ i.2.1 < (m.blocks.length : Int) := by
 intro x hx ho
 obtain ⟨i, hi, e⟩ := bZ hx
 have e : t.code.getD i (0, 0, 0) = x := by rw [AE hi, e]
 have h := HG hl hi (by unfold dd; rw [e]; exact ho)
 rw [hb] at h
 have := ht.2.1.mem _ h
 unfold dJ at this
 rw [e] at this
 omega
open Classical in
def fk (n : Nat) (m : Img) (i : Int) : Int :=
 if RightP m then
  if i < 0 ∨ i ≥ (m.tasks.length : Int) then 14
  else
   let t := m.tasks.getD i.toNat (0, 0, 0, 0, [], [], [])
   if (ew bM n t.code).2 ≠ 0 then (ew bM n t.code).2 else if fj t.code = t.blocks then (if t.code.all (me m t) = true then 0 else 12) else 11
 else 12
theorem RightP.task {m : Img} (h : RightP m) {i : Int} (h0 : 0 ≤ i) (h1 : i < (m.tasks.length : Int)) : lw m (m.tasks.getD i.toNat (0, 0, 0, 0, [], [], [])) ∧ m.tasks.getD i.toNat (0, 0, 0, 0, [], [], []) ∈ m.tasks := by
 have hlt : i.toNat < m.tasks.length := by omega
 have hm : m.tasks.getD i.toNat ((0 : Int), (0 : Int), (0 : Int), (0 : Int), ([] : List Int), ([] : List Int), ([] : List cY)) ∈ m.tasks := by rw [ar, av hlt]; exact aQ hlt
 exact ⟨(TasksOk.all.1 h.2.2).1 _ hm, hm⟩
theorem AI (n : Nat) (hn : 200 < n) (hn2 : n < 1000000) (m : Img) (i : Int) : fc n m i = some (fk n m i) := by
 obtain ⟨b, e1, e2⟩ := uN n hn hn2 m
 unfold fc
 rw [show kV n (m.1, m.2.1, m.2.2.1, m.2.2.2.1, m.2.2.2.2.1, m.2.2.2.2.2.1, m.2.2.2.2.2.2) = some b from e1, ae]
 unfold fk
 cases b with
 | false =>
  rw [if_pos (show (!false) = true from rfl), if_neg (show ¬ RightP m from fun h => by have := e2.2 h; cases this)]
 | true =>
  have hR := e2.1 rfl
  rw [if_pos hR, if_neg (by decide)]
  by_cases h0 : i < 0
  ·rw [if_pos (ag h0), if_pos (.inl h0)]
  rw [if_neg (by simpa using h0)]
  by_cases h1 : i ≥ (m.tasks.length : Int)
  ·rw [if_pos (show decide (i ≥ (m.2.2.2.2.2.2.length : Int)) = true from ag h1), if_pos (.inr h1)]
  rw [if_neg (show ¬ decide (i ≥ (m.2.2.2.2.2.2.length : Int)) = true from fun h => h1 (aD h)), if_neg (show ¬ (i < 0 ∨ i ≥ (m.tasks.length : Int)) by omega), if_pos (show (decide (0 ≤ i) && decide (i < (m.2.2.2.2.2.2.length : Int))) = true by rw [ag (by omega), ag (show i < (m.2.2.2.2.2.2.length : Int) from by have : (m.tasks.length : Int) = (m.2.2.2.2.2.2.length : Int) := rfl; omega)]; rfl)]
  obtain ⟨ht, hm⟩ := hR.task (i := i) (by omega) (by omega)
  rw [show m.2.2.2.2.2.2.getD i.toNat (0, 0, 0, 0, [], [], []) = m.tasks.getD i.toNat (0, 0, 0, 0, [], [], []) from rfl]
  generalize m.tasks.getD i.toNat (0, 0, 0, 0, [], [], []) = t at ht ⊢
  have hc : t.code.length < n := by have := ht.2.2.2.2.1; omega
  have hol : t.outs.length < n := by have := ht.2.2.1.len (by omega); have := hR.1.2.2.2.2.1; omega
  have hS : gI n ((t.1, t.2.1, t.2.2.1, t.2.2.2.1, t.2.2.2.2.1, t.2.2.2.2.2.1, t.2.2.2.2.2.2), (m.1, m.2.1, m.2.2.1, m.2.2.2.1, m.2.2.2.2.1, m.2.2.2.2.2.1, m.2.2.2.2.2.2)) = some (ew bM n t.code).2 := by
   unfold gI
   rw [show fE n (((t.1, t.2.1, t.2.2.1, t.2.2.2.1, t.2.2.2.2.1, t.2.2.2.2.2.1, t.2.2.2.2.2.2), (m.1, m.2.1, m.2.2.1, m.2.2.2.1, m.2.2.2.2.1, m.2.2.2.2.2.1, m.2.2.2.2.2.2)) : Tsk × Img).1.2.2.2.2.2.2 = some (ew bM n t.code) from xK n t.code hc (by omega) hn2]
   rfl
  rw [hS, ae]
  dsimp only
  by_cases hz : (ew bM n t.code).2 ≠ 0
  ·rw [if_pos (aj.2 hz), if_pos hz]
  rw [if_neg (fun h => hz (aj.1 h)), if_neg hz]
  have hlk := (rN (Decidable.not_not.1 hz)).1
  have hB : tH n ((t.1, t.2.1, t.2.2.1, t.2.2.2.1, t.2.2.2.2.1, t.2.2.2.2.2.1, t.2.2.2.2.2.2), (m.1, m.2.1, m.2.2.1, m.2.2.2.1, m.2.2.2.2.1, m.2.2.2.2.2.1, m.2.2.2.2.2.2)) = some (if fj t.code = t.blocks then 0 else 11) := by
   have := Kb n t m hc (by omega) hn2
   rw [if_neg (fun h => h hlk)] at this
   exact this
  rw [hB, ae]
  by_cases hb : fj t.code = t.blocks
  ·rw [if_pos hb, if_pos hb, if_neg (by decide)]
   have hN : yK n ((t.1, t.2.1, t.2.2.1, t.2.2.2.1, t.2.2.2.2.1, t.2.2.2.2.2.1, t.2.2.2.2.2.2), (m.1, m.2.1, m.2.2.1, m.2.2.2.1, m.2.2.2.2.1, m.2.2.2.2.2.1, m.2.2.2.2.2.2)) = _ := Mn n t m hc hol hn2 (Cq hlk hb ht)
   rw [hN, ae]
   cases t.code.all (me m t) <;> rfl
  ·rw [if_neg hb, if_neg hb]
   rfl
def eL (k : Nat) : Int := if (100 : Int) < (k : Int) then 100 else (k : Int)
def eu (k : Nat) : Int := if (10000 : Int) < (k : Int) then 10000 else (k : Int)
theorem kB (k : Nat) : 0 ≤ eL k ∧ eL k ≤ 100 := by unfold eL; split <;> omega
theorem pN (k : Nat) : 0 ≤ eu k ∧ eu k ≤ 10000 := by unfold eu; split <;> omega
def jN (a : Int) (l : List (List Int)) : Int := l.foldl (fun a b => a + eL b.length) a
def mR (a : Int) (l : List Tsk) : Int := l.foldl (fun a t => a + eL t.blocks.length + eL t.outs.length + (eu t.code.length).tdiv 20) a
theorem BW : ∀ {l : List (List Int)} {a : Int}, a ≤ jN a l ∧ jN a l ≤ a + 100 * l.length
 | [], a => by simp [jN]
 | b :: l, a => by
  have := BW (l := l) (a := a + eL b.length)
  have := kB b.length
  rw [show jN a (b :: l) = jN (a + eL b.length) l from rfl, aE]
  omega
theorem BX : ∀ {l : List Tsk} {a : Int}, a ≤ mR a l ∧ ∀ t ∈ l, a + (eu t.code.length).tdiv 20 ≤ mR a l
 | [], a => by simp [mR]
 | t :: l, a => by
  obtain ⟨h1, h2⟩ := BX (l := l) (a := a + eL t.blocks.length + eL t.outs.length + (eu t.code.length).tdiv 20)
  have h3 := kB t.blocks.length
  have h4 := kB t.outs.length
  have h5 := pN t.code.length
  have h6 : (eu t.code.length).tdiv 20 = eu t.code.length / 20 := ce h5.1
  rw [show mR a (t :: l) = mR (a + eL t.blocks.length + eL t.outs.length + (eu t.code.length).tdiv 20) l from rfl, List.forall_mem_cons]
  refine ⟨by omega, by omega, fun u hu => ?_⟩
  have := h2 u hu
  omega
theorem Kd (n : Nat) (hn : n < 1000000) (m : Img) (hT : m.blocks.length < n) (a : Int) (ha : 0 ≤ a ∧ a ≤ 80) : ry n (a, 0, m.1, m.2.1, m.2.2.1, m.2.2.2.1, m.2.2.2.2.1, m.2.2.2.2.2.1, m.2.2.2.2.2.2) = some (jN a m.blocks, m.1, m.2.1, m.2.2.1, m.2.2.2.1, m.2.2.2.2.1, m.2.2.2.2.2.1, m.2.2.2.2.2.2) := by
 unfold ry
 refine d7 (S := fun F => (dM (dk (C_ q_))) (s8 n F))
  (fun f x r => ∃ (i : Nat) (b : Int), x = (b, (i : Int), m.1, m.2.1, m.2.2.1, m.2.2.2.1, m.2.2.2.2.1, m.2.2.2.2.2.1, m.2.2.2.2.2.2) ∧ i ≤ m.blocks.length ∧ m.blocks.length < f + i ∧ (0 ≤ b ∧ b ≤ 80 + 100 * i) ∧ r = (jN b (m.blocks.drop i), m.1, m.2.1, m.2.2.1, m.2.2.2.1, m.2.2.2.2.1, m.2.2.2.2.2.1, m.2.2.2.2.2.2)) (fun x r ⟨i, b, _, h1, h2, _⟩ => by omega) (fun f x F hF r => ?_) n _ _ ⟨0, a, rfl, ao _, by omega, by omega, rfl⟩
 rintro ⟨i, b, rfl, h1, h2, hb, rfl⟩
 show s8 n F b (i : Int) m.1 m.2.1 m.2.2.1 m.2.2.2.1 m.2.2.2.2.1 m.2.2.2.2.2.1 m.2.2.2.2.2.2 = _
 unfold s8
 rcases ak i m.blocks.length with hlt | hge
 ·rw [if_pos (show decide ((i : Int) < (m.2.2.2.2.2.1.length : Int)) = true from ag (by exact_mod_cast hlt)), if_pos (show (decide (0 ≤ (i : Int)) && decide ((i : Int) < (m.2.2.2.2.2.1.length : Int))) = true from dc hlt), ai, di (by omega), dP (d := ([] : List Int)) hlt]
  have hc := kB (m.blocks.getD i []).length
  show F (wrap .i64 (b + eL (m.blocks.getD i []).length), _) = _
  rw [dA (show -9223372036854775808 ≤ b + eL (m.blocks.getD i []).length by omega) (show b + eL (m.blocks.getD i []).length ≤ 9223372036854775807 by omega)]
  exact hF _ _ ⟨i + 1, _, rfl, by omega, by omega, by omega, rfl⟩
 ·have : i = m.blocks.length := by omega
  subst this
  rw [if_neg (by simp), aS]
  rfl
theorem Ke (n : Nat) (hn : n < 1000000) (m : Img) (hT : m.tasks.length < n) (hB : m.blocks.length < n) (a : Int) (ha : 0 ≤ a ∧ a ≤ 80 + 100 * m.blocks.length) : n5 n (a, 0, m.1, m.2.1, m.2.2.1, m.2.2.2.1, m.2.2.2.2.1, m.2.2.2.2.2.1, m.2.2.2.2.2.2) = some (mR a m.tasks, m.1, m.2.1, m.2.2.1, m.2.2.2.1, m.2.2.2.2.1, m.2.2.2.2.2.1, m.2.2.2.2.2.2) := by
 unfold n5
 refine d7 (S := fun F => (dM (dk (C_ q_))) (s9 n F))
  (fun f x r => ∃ (i : Nat) (b : Int), x = (b, (i : Int), m.1, m.2.1, m.2.2.1, m.2.2.2.1, m.2.2.2.2.1, m.2.2.2.2.2.1, m.2.2.2.2.2.2) ∧ i ≤ m.tasks.length ∧ m.tasks.length < f + i ∧ (0 ≤ b ∧ b ≤ 80 + 100 * m.blocks.length + 700 * i) ∧ r = (mR b (m.tasks.drop i), m.1, m.2.1, m.2.2.1, m.2.2.2.1, m.2.2.2.2.1, m.2.2.2.2.2.1, m.2.2.2.2.2.2)) (fun x r ⟨i, b, _, h1, h2, _⟩ => by omega) (fun f x F hF r => ?_) n _ _ ⟨0, a, rfl, ao _, by omega, by omega, rfl⟩
 rintro ⟨i, b, rfl, h1, h2, hb, rfl⟩
 show s9 n F b (i : Int) m.1 m.2.1 m.2.2.1 m.2.2.2.1 m.2.2.2.2.1 m.2.2.2.2.2.1 m.2.2.2.2.2.2 = _
 unfold s9
 rcases ak i m.tasks.length with hlt | hge
 ·rw [if_pos (show decide ((i : Int) < (m.2.2.2.2.2.2.length : Int)) = true from ag (by exact_mod_cast hlt)), if_pos (show (decide (0 ≤ (i : Int)) && decide ((i : Int) < (m.2.2.2.2.2.2.length : Int))) = true from dc hlt), ai, di (by omega), dP (d := ((0 : Int), (0 : Int), (0 : Int), (0 : Int), ([] : List Int), ([] : List Int), ([] : List cY))) hlt]
  rw [show m.2.2.2.2.2.2.getD i (0, 0, 0, 0, [], [], []) = m.tasks.getD i (0, 0, 0, 0, [], [], []) from rfl]
  generalize m.tasks.getD i (0, 0, 0, 0, [], [], []) = t
  have h3 := kB t.blocks.length
  have h4 := kB t.outs.length
  have h5 := pN t.code.length
  have h6 : (eu t.code.length).tdiv 20 = eu t.code.length / 20 := ce h5.1
  show F (wrap .i64 (wrap .i64 (wrap .i64 (b + eL t.blocks.length) + eL t.outs.length) + wrap .i64 ((eu t.code.length).tdiv 20)), _) = _
  rw [dA (e := (eu t.code.length).tdiv 20) (by omega) (by omega), dA (e := b + eL t.blocks.length) (by omega) (by omega), dA (e := b + eL t.blocks.length + eL t.outs.length) (by omega) (by omega), dA (e := b + eL t.blocks.length + eL t.outs.length + (eu t.code.length).tdiv 20) (by omega) (by omega)]
  exact hF _ _ ⟨i + 1, _, rfl, by omega, by omega, by omega, rfl⟩
 ·have : i = m.tasks.length := by omega
  subst this
  rw [if_neg (by simp), aS]
  rfl
theorem Mo (n : Nat) (hn0 : 200 < n) (hn : n < 1000000) (m : Img) (hs : m.safe.length < 9000000000000000 ∧ m.blocks.length < 9000000000000000 ∧ m.tasks.length < 9000000000000000) : ny n m = some 0 ∨ (ny n m = some 1 ∧ EC m) := by
 unfold ny
 have e : wrap .i64 (wrap .i64 ((m.safe.length : Int) + (m.blocks.length : Int)) + (m.tasks.length : Int)) = (m.safe.length : Int) + (m.blocks.length : Int) + (m.tasks.length : Int) := by
  rw [dA (e := (m.safe.length : Int) + (m.blocks.length : Int)) (by omega) (by omega), dA (by omega) (by omega)]
 rw [show wrap .i64 (wrap .i64 ((m.2.2.2.2.1.length : Int) + (m.2.2.2.2.2.1.length : Int)) + (m.2.2.2.2.2.2.length : Int)) = (m.safe.length : Int) + (m.blocks.length : Int) + (m.tasks.length : Int) from e]
 by_cases h : (m.safe.length : Int) + (m.blocks.length : Int) + (m.tasks.length : Int) > 80
 ·rw [if_pos (ag h)]
  exact .inl rfl
 rw [if_neg (by simpa using h), Kd n hn m (by omega) _ (by omega), ae]
 obtain ⟨hB1, hB2⟩ := BW (l := m.blocks) (a := (m.safe.length : Int) + (m.blocks.length : Int) + (m.tasks.length : Int))
 rw [show n5 n _ = _ from Ke n hn m (by omega) (by omega) (jN ((m.safe.length : Int) + (m.blocks.length : Int) + (m.tasks.length : Int)) m.blocks) (by omega), ae]
 dsimp only
 obtain ⟨hT1, hT2⟩ := BX (l := m.tasks) (a := jN ((m.safe.length : Int) + (m.blocks.length : Int) + (m.tasks.length : Int)) m.blocks)
 split
 ·exact .inl rfl
 ·rename_i h2
  have h2 : mR (jN ((m.safe.length : Int) + (m.blocks.length : Int) + (m.tasks.length : Int)) m.blocks) m.tasks ≤ 200 := by simpa using h2
  refine .inr ⟨rfl, by omega, fun t ht => ?_⟩
  have h3 := hT2 t ht
  have h5 := pN t.code.length
  have h6 : (eu t.code.length).tdiv 20 = eu t.code.length / 20 := ce h5.1
  have h7 : eu t.code.length ≤ 4019 := by omega
  unfold eu at h7
  split at h7 <;> omega
abbrev dw (m : Img) (i : Int) : Tsk := m.tasks.getD i.toNat (0, 0, 0, 0, [], [], [])
theorem nE {n : Nat} {m : Img} {i : Int} (h : fk n m i = 0) : RightP m ∧ (0 ≤ i ∧ i < (m.tasks.length : Int)) ∧ (ew bM n (dw m i).code).2 = 0 ∧ fj (dw m i).code = (dw m i).blocks ∧ (dw m i).code.all (me m (dw m i)) = true := by
 unfold fk at h
 split at h
 ·rename_i hR
  split at h
  ·cases h
  ·dsimp only at h
   split at h
   ·rename_i h1
    exact absurd h h1
   ·rename_i h1
    split at h
    ·rename_i h2
     split at h
     ·rename_i h3
      exact ⟨hR, by omega, Decidable.not_not.1 h1, h2, h3⟩
     ·cases h
    ·cases h
 ·cases h
def fP (n : Nat) (m : Img) (i : Int) : Int × Int :=
 if fk n m i ≠ 0 then (0, fk n m i) else ((ew bM n (dw m i).code).1 + 2 * m.1 + m.2.1 + m.2.2.1, 0)
def lZ (n : Nat) (m : Img) (i : Int) : List Int × Int :=
 if fk n m i ≠ 0 then ([], fk n m i) else ((jX n (dw m i).code).1.map Prod.snd, 0)
theorem qH {i : Int} {k : Nat} (h0 : 0 ≤ i) (h1 : i < (k : Int)) : (decide (0 ≤ i) && decide (i < (k : Int))) = true := by rw [ag h0, ag h1]; rfl
theorem ED (n : Nat) (hn : 200 < n) (hn2 : n < 1000000) (m : Img) (i : Int) : fK n m i = some (fP n m i) := by
 unfold fK fP
 rw [show fc n (m.1, m.2.1, m.2.2.1, m.2.2.2.1, m.2.2.2.2.1, m.2.2.2.2.2.1, m.2.2.2.2.2.2) i = _ from AI n hn hn2 m i, ae]
 by_cases h : fk n m i ≠ 0
 ·rw [if_pos (aj.2 h), if_pos h]
 rw [if_neg (fun k => h (aj.1 k)), if_neg h]
 obtain ⟨hR, ⟨h0, h1⟩, h2, h3, h4⟩ := nE (Decidable.not_not.1 h)
 obtain ⟨ht, hm⟩ := hR.task h0 h1
 have hc : (dw m i).code.length < n := Nat.lt_of_le_of_lt ht.2.2.2.2.1 (by omega)
 rw [if_pos (show (decide (0 ≤ i) && decide (i < (m.2.2.2.2.2.2.length : Int))) = true from qH h0 h1)]
 rw [show fE n (m.2.2.2.2.2.2.getD i.toNat (0, 0, 0, 0, [], [], [])).2.2.2.2.2.2 = _ from xK n (dw m i).code hc (by omega) hn2, ae]
 try dsimp only
 obtain ⟨_, a1, a2, _, a3⟩ := rP n _ h2
 obtain ⟨n1, n2, n3, _⟩ := hR.1
 rw [h2, dA (e := m.1 + m.2.1) (by omega) (by omega), dA (e := m.1 + m.2.1 + (ew bM n (dw m i).code).1) (by omega) (by omega), dA (e := m.1 + m.2.1 + (ew bM n (dw m i).code).1 + m.2.2.1) (by omega) (by omega), dA (by omega) (by omega)]
 congr 2
 omega
theorem Mp (n : Nat) (hn : n < 1000000) (e : Int) (s : List (Int × Int)) (hs : s.length < n) : gJ n (e, [], s, (s.length : Int), 0) = some (e, s.map Prod.snd) := by
 unfold gJ
 refine d7 (S := fun F => (dk (C_ q_)) (gt n F))
  (fun f x r => ∃ i : Nat, x = (e, (s.take i).map Prod.snd, s, (s.length : Int), (i : Int)) ∧ i ≤ s.length ∧ s.length < f + i ∧ r = (e, s.map Prod.snd)) (fun x r ⟨i, _, h1, h2, _⟩ => by omega) (fun f x F hF r => ?_) n _ _ ⟨0, rfl, ao _, by omega, rfl⟩
 rintro ⟨i, rfl, h1, h2, rfl⟩
 show gt n F e ((s.take i).map Prod.snd) s (s.length : Int) (i : Int) = _
 unfold gt
 rcases ak i s.length with hlt | hge
 ·have hl : ((s.take i).map Prod.snd).length = i := by rw [bb, List.length_take]; omega
  rw [if_pos (ag (by omega)), if_pos (dc hlt), if_pos (by rw [ag (by omega), ag (by omega)]; rfl), ai, di (by omega)]
  refine hF _ _ ⟨i + 1, ?_, by omega, by omega, rfl⟩
  have e : (s.take i).map Prod.snd ++ [(s.getD i (0, 0)).2] = (s.take (i + 1)).map Prod.snd := by
   rw [List.take_add_one, ar, av hlt, cq]
   rfl
  rw [← e]
 ·have : i = s.length := by omega
  subst this
  rw [if_neg (by simp), List.take_length]
theorem Kf {n : Nat} {l : List cY} (h : (ew bM n l).2 = 0) : (jX n l).2 = 0 := by
 unfold jX
 rw [if_neg (fun k => k h)]
theorem BY : ∀ {l : List cY} {m : List Int} {n : Nat} (r i : Nat), (gC l m n r i).length ≤ r
 | l, m, n, 0, i => by simp [gC]
 | l, m, n, r + 1, i => by
  have := BY (l := l) (m := m) (n := n) r (i + 1)
  unfold gC
  rw [aK]
  split <;> simp <;> omega
theorem HH (n : Nat) (l : List cY) : (jX n l).1.length ≤ l.length := by
 unfold jX
 split
 ·simp
 ·exact BY _ _
theorem Kg (n : Nat) (hn : 200 < n) (hn2 : n < 1000000) (m : Img) (i : Int) : gW n m i = some (lZ n m i) := by
 unfold gW lZ
 rw [show fc n (m.1, m.2.1, m.2.2.1, m.2.2.2.1, m.2.2.2.2.1, m.2.2.2.2.2.1, m.2.2.2.2.2.2) i = _ from AI n hn hn2 m i, ae]
 by_cases h : fk n m i ≠ 0
 ·rw [if_pos (aj.2 h), if_pos h]
 rw [if_neg (fun k => h (aj.1 k)), if_neg h]
 obtain ⟨hR, ⟨h0, h1⟩, h2, h3, h4⟩ := nE (Decidable.not_not.1 h)
 obtain ⟨ht, hm⟩ := hR.task h0 h1
 have hc : (dw m i).code.length < n := Nat.lt_of_le_of_lt ht.2.2.2.2.1 (by omega)
 have hsl := HH n (dw m i).code
 rw [if_pos (show (decide (0 ≤ i) && decide (i < (m.2.2.2.2.2.2.length : Int))) = true from qH h0 h1)]
 rw [show gq n (m.2.2.2.2.2.2.getD i.toNat (0, 0, 0, 0, [], [], [])).2.2.2.2.2.2 = _ from Fi n (dw m i).code hc (by omega) hn2, ae, Mp n hn2 _ _ (by omega), ae, Kf h2]
def iM (e : Nat → Int) : Nat → Nat → Option (Int × Int)
 | 0, i => none
 | r + 1, i => if e i ≠ 0 then some ((i : Int), e i) else iM e r (i + 1)
open Classical in
def eh (n : Nat) (m : Img) : Int × Int :=
 if RightP m then (iM (fun i => fk n m (i : Int)) m.tasks.length 0).getD (-1, 0) else (-1, 12)
theorem Mq (n : Nat) (hn : 200 < n) (hn2 : n < 1000000) (m : Img) (hT : m.tasks.length < n) : gU n ((m.tasks.length : Int), 0, m.1, m.2.1, m.2.2.1, m.2.2.2.1, m.2.2.2.2.1, m.2.2.2.2.2.1, m.2.2.2.2.2.2) = some (match iM (fun i => fk n m (i : Int)) m.tasks.length 0 with | some p => .inl ((p.1, p.2, ()), ((m.1, m.2.1, m.2.2.1, m.2.2.2.1, m.2.2.2.2.1, m.2.2.2.2.2.1, m.2.2.2.2.2.2, ()), ())) | none => .inr ((), ((m.1, m.2.1, m.2.2.1, m.2.2.2.1, m.2.2.2.2.1, m.2.2.2.2.2.1, m.2.2.2.2.2.2, ()), ()))) := by
 unfold gU
 refine d7 (S := fun F => (dM (dk (C_ q_))) (iV n F))
  (fun f x r => ∃ (i : Nat), x = ((m.tasks.length : Int), (i : Int), m.1, m.2.1, m.2.2.1, m.2.2.2.1, m.2.2.2.2.1, m.2.2.2.2.2.1, m.2.2.2.2.2.2) ∧ i ≤ m.tasks.length ∧ m.tasks.length < f + i ∧ r = (match iM (fun i => fk n m (i : Int)) (m.tasks.length - i) i with | some p => .inl ((p.1, p.2, ()), ((m.1, m.2.1, m.2.2.1, m.2.2.2.1, m.2.2.2.2.1, m.2.2.2.2.2.1, m.2.2.2.2.2.2, ()), ())) | none => .inr ((), ((m.1, m.2.1, m.2.2.1, m.2.2.2.1, m.2.2.2.2.1, m.2.2.2.2.2.1, m.2.2.2.2.2.2, ()), ())))) (fun x r ⟨i, _, h1, h2, _⟩ => by omega) (fun f x F hF r => ?_) n _ _ ⟨0, rfl, ao _, by omega, rfl⟩
 rintro ⟨i, rfl, h1, h2, rfl⟩
 show iV n F (m.tasks.length : Int) (i : Int) m.1 m.2.1 m.2.2.1 m.2.2.2.1 m.2.2.2.2.1 m.2.2.2.2.2.1 m.2.2.2.2.2.2 = _
 unfold iV
 rcases ak i m.tasks.length with hlt | hge
 ·rw [if_pos (ag (by omega)), show fc n (m.1, m.2.1, m.2.2.1, m.2.2.2.1, m.2.2.2.2.1, m.2.2.2.2.2.1, m.2.2.2.2.2.2) (i : Int) = _ from AI n hn hn2 m i, ae, show m.tasks.length - i = (m.tasks.length - (i + 1)) + 1 by omega]
  unfold iM
  try dsimp only
  by_cases h : fk n m (i : Int) ≠ 0
  ·rw [if_pos (aj.2 h), if_pos h]
  ·rw [if_neg (fun k => h (aj.1 k)), if_neg h, di (by omega)]
   exact hF _ _ ⟨i + 1, rfl, by omega, by omega, rfl⟩
 ·have : i = m.tasks.length := by omega
  subst this
  rw [if_neg (by simp), bf]
  rfl
theorem Mr (n : Nat) (hn : 200 < n) (hn2 : n < 1000000) (m : Img) : jF n m = some (eh n m) := by
 obtain ⟨b, e1, e2⟩ := uN n hn hn2 m
 unfold jF eh
 rw [show kV n (m.1, m.2.1, m.2.2.1, m.2.2.2.1, m.2.2.2.2.1, m.2.2.2.2.2.1, m.2.2.2.2.2.2) = some b from e1, ae]
 cases b with
 | false =>
  rw [if_pos (show (!false) = true from rfl), if_neg (show ¬ RightP m from fun h => by have := e2.2 h; cases this)]
 | true =>
  have hR := e2.1 rfl
  rw [if_pos hR, if_neg (by decide)]
  rw [show gU n _ = _ from Mq n hn hn2 m (by have := hR.1.2.2.2.2.2.2; omega), ae]
  cases iM (fun i => fk n m (i : Int)) m.tasks.length 0 <;> rfl
abbrev Qr : Sh := .pair (.int .i64) (.pair (.int .i64) (.pair (.int .i64) (.pair (.int .i64) (.pair (.sl (.int .i64)) (.pair (.sl (.int .i64)) (.sl (.pair (.int .i64) (.pair (.int .i64) (.int .i64)))))))))
abbrev PL : Sh := .pair (.int .i64) (.pair (.int .i64) (.pair (.int .i64) (.pair (.int .i64) (.pair (.sl (.int .i64)) (.pair (.sl (.sl (.int .i64))) (.sl Qr))))))
theorem Kh (n : Nat) (hn0 : 200 < n) (hn : n < 1000000) {m : Img} (h : Sh.Sm PL m) : ny n m = some 0 ∨ (ny n m = some 1 ∧ EC m) :=
 Mo n hn0 hn m (by
  have h1 : m.safe.length ≤ 140737488351232 := h.2.2.2.2.1
  have h2 : m.blocks.length ≤ 140737488351232 := h.2.2.2.2.2.1
  have h3 : m.tasks.length ≤ 140737488351232 := h.2.2.2.2.2.2
  omega)
theorem BZ {l : List cY} {m : List Int} {n : Nat} : ∀ (r i : Nat), (gC l m n r i).length = (gy l r i).length
 | 0, i => rfl
 | r + 1, i => by
  have := BZ (l := l) (m := m) (n := n) r (i + 1)
  rw [show gy l (r + 1) i = jV l i ++ gy l r (i + 1) from rfl]
  unfold gC jV
  rw [aK, aK, this]
  split <;> rfl
abbrev Row := Int × Int × Int × Int × Int × Int
abbrev Row.C (r : Row) : Int := r.1
abbrev Row.B (r : Row) : Int := r.2.1
abbrev Row.T (r : Row) : Int := r.2.2.1
abbrev Row.D (r : Row) : Int := r.2.2.2.1
abbrev Row.P (r : Row) : Int := r.2.2.2.2.2
abbrev dz : Row := ((0 : Int), ((0 : Int), ((0 : Int), ((0 : Int), ((0 : Int), (0 : Int))))))
structure RowB (r : Row) : Prop where
 c : 1 ≤ r.1 ∧ r.1 ≤ 2000000
 b : 0 ≤ r.2.1 ∧ r.2.1 ≤ 2000000
 t : 1 ≤ r.2.2.1 ∧ r.2.2.1 ≤ 1048576
 d : 1 ≤ r.2.2.2.1 ∧ r.2.2.2.1 ≤ 1048576
 j : 0 ≤ r.2.2.2.2.1 ∧ r.2.2.2.2.1 ≤ 1048576
 p : 1 ≤ r.2.2.2.2.2 ∧ r.2.2.2.2.2 ≤ 100
structure RowsB (l : List Row) : Prop where
 len : l.length ≤ 8
 all : ∀ r ∈ l, RowB r
theorem RowsB.get {l : List Row} (h : RowsB l) {i : Nat} (hi : i < l.length) : RowB (l.getD i dz) := h.all _ (by rw [ar, av hi]; exact aQ hi)
theorem fF (n : Nat) (a : Int) (h0 : 0 ≤ a) (h1 : a < 4611686018427387904) : eQ n a = some true := by
 unfold eQ
 rw [if_pos (ag h0), ag h1]
def small (a : Int) : Prop := 0 ≤ a ∧ a ≤ 1000000000000000
theorem HI (n : Nat) (hn : n < 1000000) (l : List Int) (hl : l.length < n) (hs : ∀ a ∈ l, small a) : oZ n l = some true := by
 unfold oZ om
 have := d7 (S := fun F => (C_ q_) (lf n F)) (fun f x r => ∃ i : Nat, x = (l, (l.length : Int), (i : Int)) ∧ i ≤ l.length ∧ l.length < f + i ∧ r = .inr ((), ())) (fun x r ⟨i, _, h1, h2, _⟩ => by omega) (fun f x F hF r => ?_) n (l, (l.length : Int), 0) _ ⟨0, rfl, ao _, by omega, rfl⟩
 ·rw [this]; rfl
 ·rintro ⟨i, rfl, h1, h2, rfl⟩
  show lf n F l (l.length : Int) (i : Int) = _
  unfold lf
  rcases ak i l.length with hlt | hge
  ·have hm : l.getD i 0 ∈ l := by rw [ar, av hlt]; exact aQ hlt
   have := hs _ hm
   unfold small at this
   rw [if_pos (ag (by omega)), if_pos (dc hlt), ai, fF n _ this.1 (by omega), ae, if_neg (by decide), di (by omega)]
   exact hF _ _ ⟨i + 1, rfl, by omega, by omega, rfl⟩
  ·have : i = l.length := by omega
   subst this
   rw [if_neg (by simp)]
theorem PM (a : Int) : ¬ (((a, (0 : Int)) : Int × Int).2 != 0) = true := by simp
theorem RY (a : Int) : (((a, (0 : Int)) : Int × Int).2 == 0) = true := by simp
theorem EE {l : List Int} (hs : ∀ a ∈ l, small a) : ∀ i, i ≤ l.length → 0 ≤ (l.take i).sum ∧ (l.take i).sum ≤ 1000000000000000 * (i : Int) := by
 intro i
 induction i with
 | zero => intro _; simp
 | succ i ih =>
  intro hi
  have := ih (by omega)
  have hm : l.getD i 0 ∈ l := by rw [ar, av (by omega)]; exact aQ (by omega)
  have h2 := hs _ hm
  unfold small at h2
  rw [List.take_add_one, List.sum_append, av (by omega)]
  rw [ar, av (by omega)] at h2
  simp only [bp, Option.toList_some, List.sum_cons, List.sum_nil, cv] at h2 ⊢
  omega
theorem Ki {l : List Int} {i : Nat} (hlt : i < l.length) : (l.take i).sum + l.getD i 0 = (l.take (i + 1)).sum := by
 rw [List.take_add_one, List.sum_append, av hlt, ar, av hlt]
 simp only [bp, Option.toList_some, List.sum_cons, List.sum_nil, cv]
theorem Kj (n : Nat) (hn : n < 1000000) (l : List Int) (hl : l.length < n) (h100 : l.length ≤ 100) (hs : ∀ a ∈ l, small a) : gv n l = some (l.sum, 0) := by
 unfold gv oq
 rw [HI n hn l hl hs, ae, if_neg (by decide)]
 have := d7 (S := fun F => (dk q_) (lh n F)) (fun f x r => ∃ i : Nat, x = ((l.take i).sum, l, (l.length : Int), (i : Int)) ∧ i ≤ l.length ∧ l.length < f + i ∧ r = .inr ((l.sum, ()), ())) (fun x r ⟨i, _, h1, h2, _⟩ => by omega) (fun f x F hF r => ?_) n (0, l, (l.length : Int), 0) _ ⟨0, rfl, ao _, by omega, rfl⟩
 ·rw [this]; rfl
 ·rintro ⟨i, rfl, h1, h2, rfl⟩
  show lh n F (l.take i).sum l (l.length : Int) (i : Int) = _
  unfold lh
  rcases ak i l.length with hlt | hge
  ·have h4 := EE hs i h1
   have h5 := EE hs (i + 1) hlt
   rw [if_pos (ag (by omega)), if_pos (dc hlt), ai, Ki hlt, dA (e := (l.take (i + 1)).sum) (by omega) (by omega), fF n _ h5.1 (by omega), ae, if_neg (by decide), di (by omega)]
   exact hF _ _ ⟨i + 1, rfl, by omega, by omega, rfl⟩
  ·have : i = l.length := by omega
   subst this
   rw [if_neg (by simp), List.take_length]
theorem Qs {a b x : Int} (ha : small a) (hb : small b) (hx : x ∈ [a, b]) : small x := by
 rcases aA.1 hx with rfl | hx
 ·exact ha
 rcases aA.1 hx with rfl | hx
 ·exact hb
 cases hx
theorem AJ (n : Nat) (hn0 : 10 < n) (hn : n < 1000000) (a b : Int) (ha : small a) (hb : small b) : gv n [a, b] = some (a + b, 0) := by
 rw [Kj n hn [a, b] (by simp; omega) (by simp) (fun x hx => Qs ha hb hx)]
 simp
def ip (a b : Int) : Int := if a = 0 then 0 else (a - 1) / b + 1
theorem uO {a b : Int} (ha : 0 ≤ a) (hb : 1 ≤ b) : 0 ≤ a / b ∧ a / b ≤ a := ⟨Int.ediv_nonneg ha (by omega), Int.ediv_le_self _ ha⟩
theorem Ms {a b : Int} (ha : 0 ≤ a) (hb : 1 ≤ b) : 0 ≤ ip a b ∧ ip a b ≤ a := by
 unfold ip
 split
 ·omega
 ·have := uO (a := a - 1) (b := b) (by omega) hb
  omega
theorem Ns (n : Nat) (a b : Int) (ha : small a) (hb : 1 ≤ b ∧ b ≤ 1048576) : nz n a b = some (ip a b, 0) := by
 unfold small at ha
 unfold nz ip
 rw [fF n a ha.1 (by omega), ae, if_neg (by decide), fF n b (by omega) (by omega), ae, if_neg (by decide), if_neg (fun h => by have := af.1 h; omega)]
 by_cases h : a = 0
 ·rw [if_pos (af.2 h), if_pos h]
 ·have hd := uO (a := a - 1) (b := b) (by omega) hb.1
  rw [if_neg (fun e => h (af.1 e)), if_neg h, if_neg (fun h => by have := af.1 h; omega), dA (e := a - 1) (by omega) (by omega), ce (by omega), dA (e := (a - 1) / b) (by omega) (by omega), dA (by omega) (by omega)]
theorem B0 {a b : Int} (ha : 0 ≤ a ∧ a ≤ 100000000) (hb : 0 ≤ b ∧ b ≤ 2000000) : 0 ≤ a * b ∧ a * b ≤ 200000000000000 := by
 refine ⟨ct ha.1 hb.1, ?_⟩
 have h1 : a * b ≤ 100000000 * b := Int.mul_le_mul_of_nonneg_right ha.2 hb.1
 omega
theorem Nt {a b : Int} (ha : 0 ≤ a ∧ a ≤ 100000000) (hb : 1 ≤ b ∧ b ≤ 2000000) : ¬ a > 4611686018427387903 / b := by
 have h := B0 ha ⟨by omega, hb.2⟩
 have : a ≤ 4611686018427387903 / b := (Int.le_ediv_iff_mul_le (by omega)).2 (by omega)
 omega
theorem Kk (n : Nat) (a b : Int) (ha : 0 ≤ a ∧ a ≤ 100000000) (hb : 1 ≤ b ∧ b ≤ 2000000) : jb n a b = some (a * b, 0) := by
 unfold jb
 have h := B0 ha ⟨by omega, hb.2⟩
 rw [fF n a ha.1 (by omega), ae, if_neg (by decide), fF n b (by omega) (by omega), ae, if_neg (by decide)]
 by_cases hz : a = 0
 ·subst hz; rw [if_pos (show ((0 : Int) == 0) = true from rfl), Int.zero_mul]
 ·have hd := uO (a := 4611686018427387903) (b := b) (by omega) hb.1
  rw [if_neg (fun e => hz (af.1 e)), if_neg (fun h => by have := af.1 h; omega), if_neg (fun h => by have := af.1 h; omega), ce (by omega), dA (e := 4611686018427387903 / b) (by omega) (by omega), if_neg (fun e => Nt ha hb (aD e)), dA (by omega) (by omega)]
def lx (r : Row) (w p : Int) : Int := (ip (w + r.2.2.2.2.1) r.2.2.1 + if r.2.2.2.2.2 = p then 1 else 0) * r.1
theorem B4 {r : Row} (hr : RowB r) {w p : Int} (hw : 0 ≤ w ∧ w ≤ 2000000) : 0 ≤ ip (w + r.2.2.2.2.1) r.2.2.1 + (if r.2.2.2.2.2 = p then 1 else 0) ∧ ip (w + r.2.2.2.2.1) r.2.2.1 + (if r.2.2.2.2.2 = p then 1 else 0) ≤ 10000000 := by
 have := Ms (a := w + r.2.2.2.2.1) (b := r.2.2.1) (by have := hr.j; omega) hr.t.1
 have h2 : w + r.2.2.2.2.1 ≤ 4000000 := by have := hr.j; omega
 split <;> omega
theorem EF {r : Row} (hr : RowB r) {w p : Int} (hw : 0 ≤ w ∧ w ≤ 2000000) : 0 ≤ lx r w p ∧ lx r w p ≤ 20000000000000 := by
 have h1 := B4 hr (p := p) hw
 refine ⟨ct h1.1 (by have := hr.c; omega), ?_⟩
 have h2 : lx r w p ≤ 10000000 * r.1 := Int.mul_le_mul_of_nonneg_right h1.2 (by have := hr.c; omega)
 have := hr.c
 omega
theorem Nu (n : Nat) (hn0 : 10 < n) (hn : n < 1000000) {r : Row} (hr : RowB r) {w p : Int} (hw : 0 ≤ w ∧ w ≤ 2000000) : gY n r w p = some (lx r w p, 0) := by
 have hj := hr.j
 have hf := B4 hr (p := p) hw
 unfold gY
 have hs : small (w + r.2.2.2.2.1) := ⟨by omega, by omega⟩
 rw [AJ n hn0 hn w r.2.2.2.2.1 ⟨hw.1, by omega⟩ ⟨hj.1, by omega⟩, ae, if_neg (PM _), Ns n _ _ hs hr.t, ae]
 unfold lx
 by_cases hp : r.2.2.2.2.2 = p
 ·rw [if_pos hp] at hf
  rw [if_pos (af.2 hp), if_pos hp]
  show (jb n (wrap .i64 (ip (w + r.2.2.2.2.1) r.2.2.1 + 1)) r.1).bind _ = _
  rw [dA (by omega) (by omega), Kk n _ _ ⟨hf.1, by omega⟩ hr.c]
  rfl
 ·rw [if_neg hp, cv] at hf
  rw [if_neg (fun e => hp (af.1 e)), if_neg hp, cv]
  show (jb n (ip (w + r.2.2.2.2.1) r.2.2.1) r.1).bind _ = _
  rw [Kk n _ _ ⟨hf.1, by omega⟩ hr.c]
  rfl
theorem EG (n : Nat) (hn0 : 10 < n) (hn : n < 1000000) {r : Row} (hr : RowB r) : gu n r = some true := by
 have hc := hr.c
 have hb := hr.b
 have ht := hr.t
 have hj := hr.j
 have hd := hr.d
 have hp := hr.p
 unfold gu i8
 rw [dA (e := r.1 - 1) (by omega) (by omega), dA (e := r.2.2.1 - 1) (by omega) (by omega)]
 generalize hL : [r.1 - 1, r.2.2.1 - 1, r.1, r.2.2.1, r.2.1, r.2.2.2.2.1] = L
 have hlen : L.length = 6 := by rw [← hL]; rfl
 have hs : ∀ a ∈ L, small a := by
  intro a ha
  rw [← hL] at ha
  unfold small
  simp only [aA, List.not_mem_nil, or_false] at ha
  rcases ha with rfl | rfl | rfl | rfl | rfl | rfl <;> omega
 have := d7 (S := fun F => (dM (dk q_)) (f0 n F)) (fun f x q => ∃ i : Nat, x = (L, (i : Int), r.1, r.2.1, r.2.2.1, r.2.2.2.1, r.2.2.2.2.1, r.2.2.2.2.2) ∧ i ≤ 6 ∧ 6 < f + i ∧ q = .inr ((), ((r.1, r.2.1, r.2.2.1, r.2.2.2.1, r.2.2.2.2.1, r.2.2.2.2.2, ()), ()))) (fun x r ⟨i, _, h1, h2, _⟩ => by omega) (fun f x F hF q => ?_) n (L, 0, r.1, r.2.1, r.2.2.1, r.2.2.2.1, r.2.2.2.2.1, r.2.2.2.2.2) _ ⟨0, rfl, ao _, by omega, rfl⟩
 ·rw [this]
  show (if decide (r.2.2.2.1 ≥ 1) = true then _ else _) = _
  rw [if_pos (ag (by omega))]
  show (if decide (r.2.2.2.1 ≤ 1048576) = true then _ else _) = _
  rw [if_pos (ag (by omega))]
  show (if decide (r.2.2.2.2.2 ≥ 1) = true then some (decide (r.2.2.2.2.2 ≤ 100)) else _) = _
  rw [if_pos (ag (by omega)), ag (by omega)]
 ·rintro ⟨i, rfl, h1, h2, rfl⟩
  show f0 n F L (i : Int) _ _ _ _ _ _ = _
  unfold f0
  rcases ak i 6 with hlt | hge
  ·have hm : L.getD i 0 ∈ L := by rw [ar, av (by omega)]; exact aQ (by omega)
   have h3 := hs _ hm
   unfold small at h3
   rw [if_pos (ag (by omega)), if_pos (show (decide (0 ≤ (i : Int)) && decide ((i : Int) < 6)) = true by simp; omega), ai, fF n _ h3.1 (by omega), ae, if_neg (by decide), di (by omega)]
   exact hF _ _ ⟨i + 1, rfl, by omega, by omega, rfl⟩
  ·have : i = 6 := by omega
   subst this
   rw [if_neg (by simp)]
theorem uP (n : Nat) (hn0 : 10 < n) (hn : n < 1000000) {l : List Row} (h : RowsB l) : jH n l = some true := by
 have h8 := h.len
 unfold jH lT
 have := d7 (S := fun F => (dk q_) (ja n F)) (fun f x r => ∃ i : Nat, x = (l, l, (l.length : Int), (i : Int)) ∧ i ≤ l.length ∧ l.length < f + i ∧ r = .inr ((l, ()), ())) (fun x r ⟨i, _, h1, h2, _⟩ => by omega) (fun f x F hF r => ?_) n (l, l, (l.length : Int), 0) _ ⟨0, rfl, ao _, by omega, rfl⟩
 ·rw [this]
  show some (decide ((l.length : Int) ≤ 8)) = _
  rw [ag (by omega)]
 ·rintro ⟨i, rfl, h1, h2, rfl⟩
  show ja n F l l (l.length : Int) (i : Int) = _
  unfold ja
  rcases ak i l.length with hlt | hge
  ·rw [if_pos (ag (by omega)), if_pos (dc hlt), ai]
   show ((gu n (l.getD i dz)).bind _) = _
   rw [EG n hn0 hn (h.get hlt), ae, if_neg (by decide), di (by omega)]
   exact hF _ _ ⟨i + 1, rfl, by omega, by omega, rfl⟩
  ·have : i = l.length := by omega
   subst this
   rw [if_neg (by simp)]
theorem EH (n : Nat) (hn0 : 10 < n) (hn : n < 1000000) {l : List Row} (h : RowsB l) {i : Nat} (hi : i < l.length) : jI n l (i : Int) = some true := by
 unfold jI
 rw [uP n hn0 hn h, ae, if_pos rfl, if_pos (ag (by omega)), ag (by omega)]
def jY (i : Nat) (w p : Int) : List Row → Nat → Int
 | [], _ => 0
 | r :: t, k => (if k = i ∨ r.2.2.2.2.2 < p then 0 else lx r w p) + jY i w p t (k + 1)
theorem EI (i : Nat) {w p : Int} (hw : 0 ≤ w ∧ w ≤ 2000000) : ∀ (l : List Row) (k : Nat), (∀ r ∈ l, RowB r) → 0 ≤ jY i w p l k ∧ jY i w p l k ≤ 20000000000000 * (l.length : Int)
 | [], _, _ => by unfold jY; simp
 | r :: t, k, hr => by
  unfold jY
  have h1 := EI i (p := p) hw t (k + 1) (fun r h => hr r (az _ h))
  have h2 := EF (hr r (aB ..)) (p := p) hw
  rw [aE]
  split <;> omega
def eq (l : List Row) (i : Nat) (w : Int) : Int := (l.getD i dz).1 + (l.getD i dz).2.1 + jY i w (l.getD i dz).2.2.2.2.2 l 0
theorem Gn (n : Nat) (hn0 : 10 < n) (hn : n < 1000000) {l : List Row} (h : RowsB l) {i : Nat} (hi : i < l.length) {w : Int} (hw : 0 ≤ w ∧ w ≤ 2000000) : li n l (i : Int) w = some (eq l i w, 0) := by
 have h8 := h.len
 have hr := h.get hi
 have hc := hr.c
 have hb := hr.b
 unfold li
 rw [EH n hn0 hn h hi, ae, if_neg (by decide), fF n w hw.1 (by omega), ae, if_neg (by decide), if_pos (dc hi), ai]
 show ((gv n [(l.getD i dz).1, (l.getD i dz).2.1]).bind _) = _
 unfold eq
 generalize l.getD i dz = q at *
 rw [AJ n hn0 hn _ _ ⟨by omega, by omega⟩ ⟨hb.1, by omega⟩, ae]
 show ((jS n ((i : Int), w, q.1 + q.2.1, 0, l, (l.length : Int), 0, q.1, q.2.1, q.2.2.1, q.2.2.2.1, q.2.2.2.2.1, q.2.2.2.2.2)).bind _) = _
 unfold jS
 have := d7 (S := fun F => (eX (dk (C_ q_))) (jJ n F)) (fun f x r => ∃ (j : Nat) (s : Int), x = ((i : Int), w, s, 0, l, (l.length : Int), (j : Int), q.1, q.2.1, q.2.2.1, q.2.2.2.1, q.2.2.2.2.1, q.2.2.2.2.2) ∧ j ≤ l.length ∧ l.length < f + j ∧ (0 ≤ s ∧ s ≤ 4000000 + 20000000000000 * (j : Int)) ∧ r = (s + jY i w q.2.2.2.2.2 (l.drop j) j, 0, q.1, q.2.1, q.2.2.1, q.2.2.2.1, q.2.2.2.2.1, q.2.2.2.2.2)) (fun x r ⟨j, s, _, h1, h2, _⟩ => by omega) (fun f x F hF r => ?_) n ((i : Int), w, q.1 + q.2.1, 0, l, (l.length : Int), 0, q.1, q.2.1, q.2.2.1, q.2.2.2.1, q.2.2.2.2.1, q.2.2.2.2.2) _ ⟨0, q.1 + q.2.1, rfl, ao _, by omega, by omega, rfl⟩
 ·rw [this, bh, ae, if_neg (by simp)]
 ·rintro ⟨j, s, rfl, h1, h2, h3, rfl⟩
  show jJ n F (i : Int) w s 0 l (l.length : Int) (j : Int) _ _ _ _ _ _ = _
  unfold jJ
  rcases ak j l.length with hlt | hge
  ·rw [if_pos (ag (by omega)), if_pos (dc hlt), if_neg (by decide), di (by omega), ai, dP (d := dz) hlt]
   have hrj := h.get hlt
   have hin := EF hrj (p := q.2.2.2.2.2) hw
   unfold jY
   by_cases hji : j = i
   ·rw [if_pos (by rw [hji]; exact ba _), if_pos (.inl hji), Int.zero_add]
    exact hF _ _ ⟨j + 1, s, rfl, by omega, by omega, by omega, rfl⟩
   ·rw [if_neg (fun e => hji (by have := af.1 e; omega))]
    by_cases hp : (l.getD j dz).2.2.2.2.2 < q.2.2.2.2.2
    ·rw [if_pos (ag hp), if_pos (.inr hp), Int.zero_add]
     exact hF _ _ ⟨j + 1, s, rfl, by omega, by omega, by omega, rfl⟩
    ·rw [if_neg (fun e => hp (aD e)), if_neg (by omega)]
     show ((gY n (l.getD j dz) w q.2.2.2.2.2).bind _) = _
     rw [Nu n hn0 hn hrj hw, ae, if_pos (RY _)]
     show ((gv n [s, lx (l.getD j dz) w q.2.2.2.2.2]).bind _) = _
     rw [AJ n hn0 hn _ _ ⟨h3.1, by omega⟩ ⟨hin.1, by omega⟩, ae]
     refine hF _ _ ⟨j + 1, s + lx (l.getD j dz) w q.2.2.2.2.2, rfl, by omega, by omega, by omega, ?_⟩
     rw [Int.add_assoc]
  ·have : j = l.length := by omega
   subst this
   rw [if_neg (by simp), aS]
   unfold jY
   rw [cv]
theorem HJ {a a' b b' : Int} (ha : 0 ≤ a) (h : a ≤ a') (hb : 1 ≤ b') (hbb : b' ≤ b) : ip a b ≤ ip a' b' := by
 unfold ip
 split
 ·split
  ·omega
  ·have := uO (a := a' - 1) (b := b') (by omega) hb
   omega
 ·rw [if_neg (by omega)]
  have h1 := (uO (a := a - 1) (b := b) (by omega) (by omega)).1
  have h2 : (a - 1) / b * b ≤ a - 1 := Int.ediv_mul_le _ (by omega)
  have h3 : (a - 1) / b * b' ≤ (a - 1) / b * b := Int.mul_le_mul_of_nonneg_left hbb h1
  have : (a - 1) / b ≤ (a' - 1) / b' := (Int.le_ediv_iff_mul_le (by omega)).2 (by omega)
  omega
theorem HK {r r' : Row} (hr : RowB r) (hr' : RowB r') {w w' p : Int} (hw : 0 ≤ w) (h : w ≤ w') (hw2 : w' ≤ 2000000) (hc : r.1 = r'.1) (hT : r'.2.2.1 ≤ r.2.2.1) (hj : r.2.2.2.2.1 = r'.2.2.2.2.1) (hp : r.2.2.2.2.2 = r'.2.2.2.2.2) : lx r w p ≤ lx r' w' p := by
 unfold lx
 have h0 := hr.j
 have hc0 := hr.c
 have : ip (w + r.2.2.2.2.1) r.2.2.1 ≤ ip (w' + r'.2.2.2.2.1) r'.2.2.1 := HJ (by omega) (by omega) hr'.t.1 hT
 rw [← hc, ← hp]
 refine Int.mul_le_mul_of_nonneg_right ?_ (by omega)
 omega
theorem zt (i : Nat) {w w' p : Int} (hw : 0 ≤ w) (h : w ≤ w') (hw2 : w' ≤ 2000000) : ∀ (l : List Row) (k : Nat), (∀ r ∈ l, RowB r) → jY i w p l k ≤ jY i w' p l k
 | [], _, _ => aZ _
 | r :: t, k, hr => by
  unfold jY
  have h1 := zt i hw h hw2 (p := p) t (k + 1) (fun r h => hr r (az _ h))
  have h2 := HK (hr r (aB ..)) (hr r (aB ..)) (p := p) hw h hw2 rfl (aZ _) rfl rfl
  split <;> omega
theorem zu {l : List Row} (hl : RowsB l) (i : Nat) {w w' : Int} (hw : 0 ≤ w) (h : w ≤ w') (hw2 : w' ≤ 2000000) : eq l i w ≤ eq l i w' := by
 unfold eq
 have := zt i (p := (l.getD i dz).2.2.2.2.2) hw h hw2 l 0 hl.all
 omega
theorem oC {l : List Row} (hl : RowsB l) {i : Nat} (hi : i < l.length) {w : Int} (hw : 0 ≤ w ∧ w ≤ 2000000) : (l.getD i dz).1 ≤ eq l i w ∧ 0 ≤ eq l i w := by
 unfold eq
 have := EI i (p := (l.getD i dz).2.2.2.2.2) hw l 0 hl.all
 have hb := (hl.get hi).b
 have hc := (hl.get hi).c
 omega
def gH (l : List Row) (i : Nat) (F : Int → Option (Int × Int)) (w : Int) : Option (Int × Int) :=
 if eq l i w > (l.getD i dz).2.2.2.1 then some (0, 13) else
 if (l.getD i dz).2.2.2.2.1 > (l.getD i dz).2.2.2.1 - eq l i w then some (0, 13) else
 if eq l i w = w then some ((l.getD i dz).2.2.2.2.1 + w, 0) else F (eq l i w)
abbrev zv (l : List Row) (i : Nat) : Nat → Int → Option (Int × Int) := it (gH l i)
theorem Mt {l : List Row} (hl : RowsB l) {i : Nat} (hi : i < l.length) : ∀ (f : Nat) (w : Int), 0 ≤ w → w ≤ eq l i w → w ≤ (l.getD i dz).2.2.2.1 → (l.getD i dz).2.2.2.1 - w < f → ∃ r, zv l i f w = some r := by
 have hd := (hl.get hi).d
 intro f
 induction f with
 | zero => intro w h0 h1 h2 h3; omega
 | succ f ih =>
  intro w h0 h1 h2 h3
  show ∃ r, gH l i (it (gH l i) f) w = some r
  unfold gH
  split
  ·exact ⟨_, rfl⟩
  ·split
   ·exact ⟨_, rfl⟩
   ·split
    ·exact ⟨_, rfl⟩
    ·exact ih _ (by omega) (zu hl i h0 h1 (by omega)) (by omega) (by omega)
theorem Mu {l : List Row} {i : Nat} : ∀ (f : Nat) (w : Int) (r : Int × Int), zv l i f w = some r → zv l i (f + 1) w = some r := by
 intro f
 induction f with
 | zero => intro w r h; cases h
 | succ f ih =>
  intro w r h
  have h' : gH l i (it (gH l i) f) w = some r := h
  show gH l i (it (gH l i) (f + 1)) w = some r
  unfold gH at h' ⊢
  split at h'
  ·rename_i c; rw [if_pos c]; exact h'
  ·rename_i c
   rw [if_neg c]
   split at h'
   ·rename_i c; rw [if_pos c]; exact h'
   ·rename_i c
    rw [if_neg c]
    split at h'
    ·rename_i c; rw [if_pos c]; exact h'
    ·rename_i c
     rw [if_neg c]
     exact ih _ _ h'
theorem Mv {l : List Row} {i : Nat} {f g : Nat} {w : Int} {r : Int × Int} (h : f ≤ g) (hr : zv l i f w = some r) : zv l i g w = some r := by
 induction h with
 | refl => exact hr
 | step _ ih => exact Mu _ _ _ ih
def eg (l : List Row) (i : Nat) : Int × Int := (zv l i 25000 0).getD (0, 0)
theorem zw {l : List Row} (hl : RowsB l) {i : Nat} (hi : i < l.length) (hd : (l.getD i dz).2.2.2.1 ≤ 20000) {n : Nat} (hn : 25000 ≤ n) : zv l i n 0 = some (eg l i) := by
 have h0 := (hl.get hi).d
 obtain ⟨r, hr⟩ := Mt hl hi 25000 0 (aZ _) (oC hl hi (by omega)).2 (by omega) (by omega)
 refine Mv hn ?_
 unfold eg
 rw [hr]
 rfl
theorem Kl (n : Nat) (hn0 : 200 < n) (hn : n < 1000000) {l : List Row} (h : RowsB l) {i : Nat} (hi : i < l.length) : ∀ (f : Nat) (w : Int), 0 ≤ w ∧ w ≤ 2000000 →
  it (fun F => (dM (dk (C_ q_))) (gw n F)) f (l, (i : Int), w, (l.getD i dz).1, (l.getD i dz).2.1, (l.getD i dz).2.2.1, (l.getD i dz).2.2.2.1, (l.getD i dz).2.2.2.2.1, (l.getD i dz).2.2.2.2.2) = (zv l i f w).map fun r => (r.1, r.2, (l.getD i dz).1, (l.getD i dz).2.1, (l.getD i dz).2.2.1, (l.getD i dz).2.2.2.1, (l.getD i dz).2.2.2.2.1, (l.getD i dz).2.2.2.2.2) := by
 have hd := (h.get hi).d
 have hj := (h.get hi).j
 intro f
 induction f with
 | zero => intro w hw; rfl
 | succ f ih =>
  intro w hw
  show gw n _ l (i : Int) w _ _ _ _ _ _ = (gH l i (it (gH l i) f) w).map _
  have hin := oC h hi hw
  unfold gw gH
  rw [Gn n (by omega) hn h hi hw, ae, if_neg (PM _)]
  by_cases c1 : eq l i w > (l.getD i dz).2.2.2.1
  ·rw [if_pos (ag c1), if_pos c1]; rfl
  ·rw [if_neg (fun e => c1 (aD e)), if_neg c1, dA (e := (l.getD i dz).2.2.2.1 - eq l i w) (by omega) (by omega)]
   by_cases c2 : (l.getD i dz).2.2.2.2.1 > (l.getD i dz).2.2.2.1 - eq l i w
   ·rw [if_pos (ag c2), if_pos c2]; rfl
   ·rw [if_neg (fun e => c2 (aD e)), if_neg c2]
    by_cases c3 : eq l i w = w
    ·rw [if_neg (fun e => aj.1 e c3), if_pos c3]
     show (some (wrap .i64 ((l.getD i dz).2.2.2.2.1 + w), 0, (l.getD i dz).1, (l.getD i dz).2.1, (l.getD i dz).2.2.1, (l.getD i dz).2.2.2.1, (l.getD i dz).2.2.2.2.1, (l.getD i dz).2.2.2.2.2) : Option _) = _
     rw [dA (e := (l.getD i dz).2.2.2.2.1 + w) (by omega) (by omega)]; rfl
    ·rw [if_pos (aj.2 c3), if_neg c3]
     exact ih _ (by omega)
theorem Gp (n : Nat) (hn0 : 25000 ≤ n) (hn : n < 1000000) {l : List Row} (h : RowsB l) {i : Nat} (hi : i < l.length) (hd2 : (l.getD i dz).2.2.2.1 ≤ 20000) : fu n l (i : Int) = some (eg l i) := by
 have hd := (h.get hi).d
 have hj := (h.get hi).j
 have hr := zw h hi hd2 (show 25000 ≤ n + 1 by omega)
 have hin := oC h hi (show (0 : Int) ≤ 0 ∧ (0 : Int) ≤ 2000000 by omega)
 have h2 : gH l i (it (gH l i) n) 0 = some (eg l i) := hr
 unfold fu
 rw [EH n (by omega) hn h hi, ae, if_neg (by decide), if_pos (dc hi), Gn n (by omega) hn h hi (by omega), ae, if_neg (PM _), ai, ← h2]
 unfold gH
 by_cases c1 : eq l i 0 > (l.getD i dz).2.2.2.1
 ·rw [if_pos (ag c1), if_pos c1]
 ·rw [if_neg (fun e => c1 (aD e)), if_neg c1]
  show (if decide ((l.getD i dz).2.2.2.2.1 > (wrap .i64 ((l.getD i dz).2.2.2.1 - eq l i 0))) = true then _ else _) = _
  rw [dA (e := (l.getD i dz).2.2.2.1 - eq l i 0) (by omega) (by omega)]
  by_cases c2 : (l.getD i dz).2.2.2.2.1 > (l.getD i dz).2.2.2.1 - eq l i 0
  ·rw [if_pos (ag c2), if_pos c2]
  ·rw [if_neg (fun e => c2 (aD e)), if_neg c2]
   by_cases c3 : eq l i 0 = 0
   ·rw [if_neg (fun e => aj.1 e c3), if_pos c3]
    show some (wrap .i64 ((l.getD i dz).2.2.2.2.1 + 0), 0) = _
    rw [dA (by omega) (by omega)]
   ·rw [if_pos (aj.2 c3), if_neg c3]
    have := Kl n (by omega) hn h hi n (eq l i 0) (by omega)
    unfold jy
    show (it _ n (l, (i : Int), eq l i 0, (l.getD i dz).1, (l.getD i dz).2.1, (l.getD i dz).2.2.1, (l.getD i dz).2.2.2.1, (l.getD i dz).2.2.2.2.1, (l.getD i dz).2.2.2.2.2)).bind _ = _
    rw [this]
    show (Option.map _ (it (gH l i) n (eq l i 0))).bind _ = it (gH l i) n (eq l i 0)
    generalize it (gH l i) n (eq l i 0) = z
    cases z <;> rfl
def uQ (R : Nat → Int × Int) : Nat → Nat → List Int → List Int × Int × Int
 | 0, _, o => (o, -1, 0)
 | k + 1, i, o => if (R i).2 ≠ 0 then ([], (i : Int), (R i).2) else uQ R k (i + 1) (o ++ [(R i).1])
def xN (l : List Row) : List Int × Int × Int := uQ (eg l) l.length 0 []
def EJ (R : Nat → Int × Int) : Nat → Nat → List Int → (((List Int × Int × Int × Unit) × Unit) ⊕ ((List Int × Unit) × Unit))
 | 0, _, o => .inr ((o, ()), ())
 | k + 1, i, o => if (R i).2 ≠ 0 then .inl (([], (i : Int), (R i).2, ()), ()) else EJ R k (i + 1) (o ++ [(R i).1])
theorem Gq (R : Nat → Int × Int) : ∀ (k i : Nat) (o : List Int), (Sum.elim (fun (z3 : (((List Int) × Int × Int × Unit) × Unit)) => (some (z3.1.1, z3.1.2.1, z3.1.2.2.1))) (fun (z4 : (((List Int) × Unit) × Unit)) => (some (z4.1.1, (-1), 0))) (EJ R k i o) : Option (List Int × Int × Int)) = some (uQ R k i o)
 | 0, _, _ => rfl
 | k + 1, i, o => by
  unfold EJ uQ
  split
  ·rfl
  ·exact Gq R k (i + 1) _
theorem Km (n : Nat) (hn0 : 25000 ≤ n) (hn : n < 1000000) {l : List Row} (h : RowsB l) (hd2 : ∀ r ∈ l, r.2.2.2.1 ≤ 20000) : jc n l = some (xN l) := by
 have h8 := h.len
 unfold jc lj
 rw [uP n (by omega) hn h, ae, if_neg (by decide)]
 have := d7 (S := fun F => (dk q_) (iC n F)) (fun f x r => ∃ (i : Nat) (o : List Int), x = (l, o, (l.length : Int), (i : Int)) ∧ i ≤ l.length ∧ l.length < f + i ∧ o.length ≤ i ∧ r = EJ (eg l) (l.length - i) i o) (fun x r ⟨i, _, _, h1, h2, _⟩ => by omega) (fun f x F hF r => ?_) n (l, [], (l.length : Int), 0) _ ⟨0, [], rfl, ao _, by omega, by simp, rfl⟩
 ·rw [this]
  exact Gq _ _ _ _
 ·rintro ⟨i, o, rfl, h1, h2, h3, rfl⟩
  show iC n F l o (l.length : Int) (i : Int) = _
  unfold iC
  rcases ak i l.length with hlt | hge
  ·obtain ⟨k, hk⟩ : ∃ k, l.length - i = k + 1 := ⟨l.length - i - 1, by omega⟩
   have hm : l.getD i dz ∈ l := by rw [ar, av hlt]; exact aQ hlt
   rw [if_pos (ag (by omega)), Gp n hn0 hn h hlt (hd2 _ hm), ae, hk]
   unfold EJ
   by_cases c : (eg l i).2 ≠ 0
   ·rw [if_pos (aj.2 c), if_pos c]
   ·rw [if_neg (fun e => c (aj.1 e)), if_neg c, if_pos (by rw [ag (show (o.length + 1) * 8 ≤ 140737488355328 by omega)]; rfl), di (by omega)]
    exact hF _ _ ⟨i + 1, o ++ [(eg l i).1], rfl, by omega, by omega, by rw [aK]; simp; omega, by rw [show l.length - (i + 1) = k by omega]⟩
  ·have : i = l.length := by omega
   subst this
   rw [if_neg (by simp), bf]
   rfl
abbrev gb := Int × List Int × List Int
abbrev eS : gb := ((0 : Int), ([], []))
structure UseOk (b : Int) (u : gb) : Prop where
 p : 1 ≤ u.1 ∧ u.1 ≤ 100
 r : Rises b (-1) u.2.1
 len : u.2.1.length = u.2.2.length
 l : ∀ a ∈ u.2.2, 0 ≤ a ∧ a ≤ 1099511627776
structure UsesOk (b : Int) (l : List gb) : Prop where
 bl : 0 ≤ b ∧ b ≤ 8
 len : l.length ≤ 8
 all : ∀ u ∈ l, UseOk b u
theorem UsesOk.get {b : Int} {l : List gb} (h : UsesOk b l) {i : Nat} (hi : i < l.length) : UseOk b (l.getD i eS) := h.all _ (by rw [ar, av hi]; exact aQ hi)
theorem xO {l : List Int} {i : Nat} (hi : i < l.length) : l.getD i 0 ∈ l := by rw [ar, av hi]; exact aQ hi
theorem UseOk.small {b : Int} {u : gb} (h : UseOk b u) (hb : b ≤ 8) : u.2.1.length ≤ 8 := by
 have h1 := h.r.len
 by_cases hb0 : -1 < b
 ·have := h1 hb0; omega
 ·cases hu : u.2.1 with
  | nil => simp
  | cons x t => have := h.r.mem x (by rw [hu]; exact aB ..); omega
theorem Rises.drop {e : Int} {l : List Int} {b : Int} (h : Rises e b l) : ∀ {i : Nat}, i < l.length → Rises e (if i = 0 then b else l.getD (i - 1) 0) (l.drop i) := by
 induction l generalizing b with
 | nil => intro i hi; simp at hi
 | cons x t ih =>
  intro i hi
  cases i with
  | zero => exact h
  | succ i =>
   have h2 : Rises e x t := h.2.2
   rw [if_neg (by omega), List.drop_succ_cons, cu]
   cases i with
   | zero => exact h2
   | succ i =>
    have := ih h2 (i := i + 1) (by simpa using hi)
    rw [if_neg (by omega), cu] at this
    exact this
theorem Rises.at {e : Int} {l : List Int} {b : Int} (h : Rises e b l) {i : Nat} (hi : i < l.length) : (if i = 0 then b else l.getD (i - 1) 0) < l.getD i 0 ∧ l.getD i 0 < e := by
 have := h.drop hi
 rw [dP (d := (0 : Int)) hi] at this
 exact ⟨this.1, this.2.1⟩
theorem EK (n : Nat) (hn0 : 200 < n) (hn : n < 1000000) {b : Int} (hb : 0 ≤ b ∧ b ≤ 8) {u : gb} (h : UseOk b u) : tR n u b = some true := by
 have h8 := h.small hb.2
 have hp := h.p
 have hlen := h.len
 unfold tR tQ
 rw [if_neg (fun e => by have := aD e; omega), if_neg (fun e => by have := aD e; omega), if_neg (fun e => by have := aj.1 e; omega)]
 have := d7 (S := fun F => (dM (dk q_)) (qk n F)) (fun f x r => ∃ i : Nat, x = (b, (if i = 0 then -1 else u.2.1.getD (i - 1) 0), u.2.1, (u.2.1.length : Int), (i : Int), u.1, u.2.1, u.2.2) ∧ i ≤ u.2.1.length ∧ u.2.1.length < f + i ∧ r = .inr ((), ((u.1, u.2.1, u.2.2, ()), ()))) (fun x r ⟨i, _, h1, h2, _⟩ => by omega) (fun f x F hF r => ?_) n (b, -1, u.2.1, (u.2.1.length : Int), 0, u.1, u.2.1, u.2.2) _ ⟨0, rfl, ao _, by omega, rfl⟩
 ·rw [this]; rfl
 ·rintro ⟨i, rfl, h1, h2, rfl⟩
  show qk n F b (if i = 0 then -1 else u.2.1.getD (i - 1) 0) u.2.1 (u.2.1.length : Int) (i : Int) u.1 u.2.1 u.2.2 = _
  unfold qk
  rcases ak i u.2.1.length with hlt | hge
  ·have hr := h.r.at hlt
   have hl := h.l _ (xO (l := u.2.2) (i := i) (by omega))
   rw [if_pos (ag (by omega)), if_pos (dc hlt), ai, if_neg (fun e => by have := aD e; omega), if_neg (fun e => by have := aD e; omega), if_pos (dc (by omega)), if_neg (fun e => by have := aD e; omega), if_pos (dc (by omega)), if_neg (fun e => by have := aD e; omega), di (by omega)]
   exact hF _ _ ⟨i + 1, by rw [if_neg (by omega), cu], by omega, by omega, rfl⟩
  ·have : i = u.2.1.length := by omega
   subst this
   rw [if_neg (by simp)]
theorem si (n : Nat) (hn0 : 200 < n) (hn : n < 1000000) {b : Int} {l : List gb} (h : UsesOk b l) : iY n b l = some true := by
 have h8 := h.len
 have hb := h.bl
 unfold iY kZ
 have := d7 (S := fun F => (dk (C_ q_)) (iA n F)) (fun f x r => ∃ i : Nat, x = (b, l, l, (l.length : Int), (i : Int)) ∧ i ≤ l.length ∧ l.length < f + i ∧ r = .inr ((b, l, ()), ())) (fun x r ⟨i, _, h1, h2, _⟩ => by omega) (fun f x F hF r => ?_) n (b, l, l, (l.length : Int), 0) _ ⟨0, rfl, ao _, by omega, rfl⟩
 ·rw [this]
  show (if decide (b ≥ 0) = true then if decide (b ≤ 8) = true then some (decide ((l.length : Int) ≤ 8)) else _ else _) = _
  rw [if_pos (ag hb.1), if_pos (ag hb.2), ag (by omega)]
 ·rintro ⟨i, rfl, h1, h2, rfl⟩
  show iA n F b l l (l.length : Int) (i : Int) = _
  unfold iA
  rcases ak i l.length with hlt | hge
  ·rw [if_pos (ag (by omega)), if_pos (dc hlt), ai]
   show ((tR n (l.getD i eS) b).bind _) = _
   rw [EK n hn0 hn hb (h.get hlt), ae, if_neg (by decide), di (by omega)]
   exact hF _ _ ⟨i + 1, rfl, by omega, by omega, rfl⟩
  ·have : i = l.length := by omega
   subst this
   rw [if_neg (by simp)]
def hi (p m : Int) : Int := if p > m then p else m
def uR (p : Int) : List Int → List Int → List Int
 | [], c => c
 | k :: t, c => uR p t (c.set k.toNat (hi p (c.getD k.toNat 0)))
def po : List gb → List Int → List Int
 | [], c => c
 | u :: t, c => po t (uR u.1 u.2.1 c)
def dX (b : Int) (l : List gb) : List Int := po l (List.replicate b.toNat 0)
theorem oD (p : Int) : ∀ (k c : List Int), (uR p k c).length = c.length
 | [], c => rfl
 | x :: t, c => by unfold uR; rw [oD p t, aO]
theorem B5 : ∀ (l : List gb) (c : List Int), (po l c).length = c.length
 | [], c => rfl
 | u :: t, c => by unfold po; rw [B5 t, oD]
def Cy (p k : Int) : List Int → Int → Int
 | [], m => m
 | x :: t, m => Cy p k t (if x = k then hi p m else m)
def Cz (k : Int) : List gb → Int → Int
 | [], m => m
 | u :: t, m => Cz k t (Cy u.1 k u.2.1 m)
def ly (l : List gb) (k : Int) : Int := Cz k l 0
theorem Gr (p : Int) {k : Int} (hk : 0 ≤ k) : ∀ (s c : List Int), k < (c.length : Int) → (∀ x ∈ s, 0 ≤ x ∧ x < (c.length : Int)) → (uR p s c).getD k.toNat 0 = Cy p k s (c.getD k.toNat 0)
 | [], c, _, _ => rfl
 | x :: t, c, hc, hs => by
  unfold uR Cy
  have hx := hs x (aB ..)
  rw [Gr p hk t _ (by rw [aO]; exact hc) (fun y hy => by rw [aO]; exact hs y (az _ hy))]
  congr 1
  by_cases e : x = k
  ·subst e
   rw [if_pos rfl, ar, List.getElem?_set_self (by omega)]
   rfl
  ·rw [if_neg e, ar, List.getElem?_set_ne (by omega), ← ar]
theorem EL {k : Int} (hk : 0 ≤ k) : ∀ (l : List gb) (c : List Int), k < (c.length : Int) → (∀ u ∈ l, ∀ x ∈ u.2.1, 0 ≤ x ∧ x < (c.length : Int)) → (po l c).getD k.toNat 0 = Cz k l (c.getD k.toNat 0)
 | [], c, _, _ => rfl
 | u :: t, c, hc, hs => by
  unfold po Cz
  rw [EL hk t _ (by rw [oD]; exact hc) (fun v hv x hx => by rw [oD]; exact hs v (az _ hv) x hx), Gr u.1 hk _ _ hc (hs u (aB ..))]
theorem UsesOk.rng {b : Int} {l : List gb} (h : UsesOk b l) : ∀ u ∈ l, ∀ x ∈ u.2.1, 0 ≤ x ∧ x < b := fun u hu x hx => by
 have := (h.all u hu).r.mem x hx
 omega
theorem HL (b : Int) (l : List gb) : (dX b l).length = b.toNat := by unfold dX; rw [B5, bo]
theorem Kn {b : Int} {l : List gb} (h : UsesOk b l) {k : Int} (h0 : 0 ≤ k) (h1 : k < b) : (dX b l).getD k.toNat 0 = ly l k := by
 unfold dX ly
 have hlen : ((List.replicate b.toNat (0 : Int)).length : Int) = b := by rw [bo]; omega
 rw [EL h0 l _ (by omega) (fun u hu x hx => by rw [hlen]; exact h.rng u hu x hx)]
 congr 1
 rw [ar, bV]
 split <;> rfl
theorem Nv (n : Nat) (hn0 : 200 < n) (hn : n < 1000000) (l : List gb) (a i p : Int) (s t c : List Int) (hlen : s.length = t.length) (h8 : s.length ≤ 8) (hs : ∀ x ∈ s, 0 ≤ x ∧ x < (c.length : Int)) :
  gX n (l, a, i, s, (s.length : Int), 0, c, p, s, t) = some (l, a, i, uR p s c, p, s, t) := by
 unfold gX
 refine d7 (S := fun F => (eX q_) (iZ n F)) (fun f x r => ∃ (j : Nat) (d : List Int), x = (l, a, i, s, (s.length : Int), (j : Int), d, p, s, t) ∧ j ≤ s.length ∧ s.length < f + j ∧ d.length = c.length ∧ r = (l, a, i, uR p (s.drop j) d, p, s, t)) (fun x r ⟨j, _, _, h1, h2, _⟩ => by omega) (fun f x F hF r => ?_) n _ _ ⟨0, c, rfl, ao _, by omega, rfl, rfl⟩
 rintro ⟨j, d, rfl, h1, h2, h3, rfl⟩
 show iZ n F l a i s (s.length : Int) (j : Int) d p s t = _
 unfold iZ
 rcases ak j s.length with hlt | hge
 ·have hx := hs _ (xO hlt)
  rw [if_pos (ag (by omega)), if_pos (dc hlt), if_pos (dc (by omega)), ai, dP (d := (0 : Int)) hlt]
  have : gL n (p, (s, t)) (s.getD j 0) (t.getD j 0) d = some (d.set (s.getD j 0).toNat (hi p (d.getD (s.getD j 0).toNat 0))) := by
   unfold gL hi
   rw [if_pos (qH hx.1 (by rw [h3]; exact hx.2)), if_pos (qH hx.1 (by rw [h3]; exact hx.2))]
  rw [this, ae, di (by omega)]
  exact hF _ _ ⟨j + 1, _, rfl, by omega, by omega, by rw [aO]; exact h3, rfl⟩
 ·have : j = s.length := by omega
  subst this
  rw [if_neg (by simp), aS]
  rfl
theorem Nw (n : Nat) (hn0 : 200 < n) (hn : n < 1000000) (l : List gb) (c : List Int) (h8 : l.length ≤ 8) (hs : ∀ u ∈ l, u.2.1.length = u.2.2.length ∧ u.2.1.length ≤ 8 ∧ ∀ x ∈ u.2.1, 0 ≤ x ∧ x < (c.length : Int)) : mb n l c = some (po l c) := by
 unfold mb lQ
 have := d7 (S := fun F => (dk q_) (i0 n F)) (fun f x r => ∃ (j : Nat) (d : List Int), x = (l, (l.length : Int), (j : Int), d) ∧ j ≤ l.length ∧ l.length < f + j ∧ d.length = c.length ∧ r = po (l.drop j) d) (fun x r ⟨j, _, _, h1, h2, _⟩ => by omega) (fun f x F hF r => ?_) n (l, (l.length : Int), 0, c) _ ⟨0, c, rfl, ao _, by omega, rfl, rfl⟩
 ·rw [this, bh]; rfl
 ·rintro ⟨j, d, rfl, h1, h2, h3, rfl⟩
  show i0 n F l (l.length : Int) (j : Int) d = _
  unfold i0
  rcases ak j l.length with hlt | hge
  ·have hm : l.getD j eS ∈ l := by rw [ar, av hlt]; exact aQ hlt
   obtain ⟨k1, k2, k3⟩ := hs _ hm
   rw [if_pos (ag (by omega)), if_pos (dc hlt), ai, dP (d := eS) hlt]
   show ((gX n (l, (l.length : Int), (j : Int), (l.getD j eS).2.1, ((l.getD j eS).2.1.length : Int), 0, d, (l.getD j eS).1, (l.getD j eS).2.1, (l.getD j eS).2.2)).bind _) = _
   rw [Nv n hn0 hn l _ _ _ _ _ d k1 k2 (fun x hx => by rw [h3]; exact k3 x hx), ae]
   show F (l, (l.length : Int), wrap .i64 ((j : Int) + 1), _) = _
   rw [di (by omega)]
   exact hF _ _ ⟨j + 1, _, rfl, by omega, by omega, by rw [oD]; exact h3, rfl⟩
  ·have : j = l.length := by omega
   subst this
   rw [if_neg (by simp), aS]
   rfl
theorem wo (n : Nat) (hn0 : 200 < n) (hn : n < 1000000) {b : Int} {l : List gb} (h : UsesOk b l) : fJ n b l = some (dX b l) := by
 have hb := h.bl
 unfold fJ
 rw [si n hn0 hn h, ae, if_neg (by decide), if_pos (by rw [ag hb.1, ba, ag (show b * 8 ≤ 140737488355328 by omega)]; rfl)]
 rw [Nw n hn0 hn l _ h.len (fun u hu => ⟨(h.all u hu).len, (h.all u hu).small hb.2, fun x hx => by have := h.rng u hu x hx; rw [bo]; omega⟩)]
 rfl
def mg (c : Int → Int) (p q : Int) : List Int → List Int → Int → Int
 | k :: s, a :: t, m => mg c p q s t (if q < p then if c k ≥ p then hi a m else m else m)
 | _, _, m => m
def pp (c : Int → Int) (p : Int) : List gb → Int → Int
 | [], m => m
 | u :: t, m => pp c p t (mg c p u.1 u.2.1 u.2.2 m)
def zx (l : List gb) (i : Nat) : Int := pp (ly l) (l.getD i eS).1 l 0
def fG (l : List gb) : List Int := (List.range l.length).map (fun (k : Nat) => zx l k)
theorem Nx (n : Nat) (hn0 : 200 < n) (hn : n < 1000000) {b : Int} {l : List gb} (h : UsesOk b l) (p : Int) (ob ol : List Int) {i : Nat} (hi : i < l.length) (m : Int) :
  mK n (l, (l.length : Int), (i : Int), (l.getD i eS).2.1, ((l.getD i eS).2.1.length : Int), 0, p, ob, ol, dX b l, m, (l.getD i eS).1, (l.getD i eS).2.1, (l.getD i eS).2.2) = some (l, (l.length : Int), (i : Int), p, ob, ol, dX b l, mg (ly l) p (l.getD i eS).1 (l.getD i eS).2.1 (l.getD i eS).2.2 m, (l.getD i eS).1, (l.getD i eS).2.1, (l.getD i eS).2.2) := by
 have hu := h.get hi
 have h8 := hu.small h.bl.2
 have hlen := hu.len
 have hb := h.bl
 generalize hq : l.getD i eS = u at *
 unfold mK
 refine d7 (S := fun F => (eX (dM q_)) (qn n F)) (fun f x r => ∃ (j : Nat) (m : Int), x = (l, (l.length : Int), (i : Int), u.2.1, (u.2.1.length : Int), (j : Int), p, ob, ol, dX b l, m, u.1, u.2.1, u.2.2) ∧ j ≤ u.2.1.length ∧ u.2.1.length < f + j ∧ r = (l, (l.length : Int), (i : Int), p, ob, ol, dX b l, mg (ly l) p u.1 (u.2.1.drop j) (u.2.2.drop j) m, u.1, u.2.1, u.2.2)) (fun x r ⟨j, _, _, h1, h2, _⟩ => by omega) (fun f x F hF r => ?_) n _ _ ⟨0, m, rfl, ao _, by omega, rfl⟩
 rintro ⟨j, m, rfl, h1, h2, rfl⟩
 show qn n F l (l.length : Int) (i : Int) u.2.1 (u.2.1.length : Int) (j : Int) p ob ol (dX b l) m u.1 u.2.1 u.2.2 = _
 unfold qn
 rcases ak j u.2.1.length with hlt | hge
 ·have hm := hu.r.mem _ (xO hlt)
  have hcl : ((dX b l).length : Int) = b := by rw [HL]; omega
  rw [if_pos (ag (by omega)), if_pos (dc hlt), if_pos (dc (by omega)), ai, dP (d := (0 : Int)) hlt, dP (d := (0 : Int)) (l := u.2.2) (by omega)]
  have : jn n (u.1, (u.2.1, u.2.2)) (u.2.1.getD j 0) (u.2.2.getD j 0) p ob ol (dX b l) m = some (p, ob, ol, dX b l, if u.1 < p then if ly l (u.2.1.getD j 0) ≥ p then Go.Proofs.Dk.hi (u.2.2.getD j 0) m else m else m) := by
   unfold jn Go.Proofs.Dk.hi
   by_cases c1 : u.1 < p
   ·rw [if_pos (ag c1), if_pos c1, if_pos (qH (by omega) (by rw [hcl]; omega)), Kn h (by omega) (by omega)]
    by_cases c2 : ly l (u.2.1.getD j 0) ≥ p
    ·rw [if_pos (ag c2), if_pos c2]
    ·rw [if_neg (fun e => c2 (aD e)), if_neg c2]
   ·rw [if_neg (fun e => c1 (aD e)), if_neg c1]
  rw [this, ae, di (by omega)]
  exact hF _ _ ⟨j + 1, _, rfl, by omega, by omega, rfl⟩
 ·have : j = u.2.1.length := by omega
  subst this
  rw [if_neg (by simp), aS]
  rfl
theorem Mw (n : Nat) (hn0 : 200 < n) (hn : n < 1000000) {b : Int} {l : List gb} (h : UsesOk b l) (p : Int) (ob ol : List Int) : tV n l p ob ol (dX b l) 0 = some (p, ob, ol, dX b l, pp (ly l) p l 0) := by
 have h8 := h.len
 unfold tV tU
 have := d7 (S := fun F => (dM (dk q_)) (qo n F)) (fun f x r => ∃ (j : Nat) (m : Int), x = (l, (l.length : Int), (j : Int), p, ob, ol, dX b l, m) ∧ j ≤ l.length ∧ l.length < f + j ∧ r = (p, ob, ol, dX b l, pp (ly l) p (l.drop j) m)) (fun x r ⟨j, _, _, h1, h2, _⟩ => by omega) (fun f x F hF r => ?_) n (l, (l.length : Int), 0, p, ob, ol, dX b l, 0) _ ⟨0, 0, rfl, ao _, by omega, rfl⟩
 ·rw [this, bh]; rfl
 ·rintro ⟨j, m, rfl, h1, h2, rfl⟩
  show qo n F l (l.length : Int) (j : Int) p ob ol (dX b l) m = _
  unfold qo
  rcases ak j l.length with hlt | hge
  ·rw [if_pos (ag (by omega)), if_pos (dc hlt), ai, dP (d := eS) hlt]
   show ((mK n (l, (l.length : Int), (j : Int), (l.getD j eS).2.1, ((l.getD j eS).2.1.length : Int), 0, p, ob, ol, dX b l, m, (l.getD j eS).1, (l.getD j eS).2.1, (l.getD j eS).2.2)).bind _) = _
   rw [Nx n hn0 hn h p ob ol hlt m, ae]
   show F (l, (l.length : Int), wrap .i64 ((j : Int) + 1), _) = _
   rw [di (by omega)]
   exact hF _ _ ⟨j + 1, _, rfl, by omega, by omega, rfl⟩
  ·have : j = l.length := by omega
   subst this
   rw [if_neg (by simp), aS]
   rfl
theorem Mx (n : Nat) (hn0 : 200 < n) (hn : n < 1000000) {b : Int} {l : List gb} (h : UsesOk b l) : i7 n b l = some (fG l) := by
 have h8 := h.len
 unfold i7 la
 rw [si n hn0 hn h, ae, if_neg (by decide), wo n hn0 hn h, ae]
 have := d7 (S := fun F => (dM q_) (iB n F)) (fun f x r => ∃ (j : Nat), x = (l, (List.range j).map (fun (k : Nat) => zx l k), l, (l.length : Int), (j : Int), dX b l) ∧ j ≤ l.length ∧ l.length < f + j ∧ r = (fG l, dX b l)) (fun x r ⟨j, _, h1, h2, _⟩ => by omega) (fun f x F hF r => ?_) n (l, [], l, (l.length : Int), 0, dX b l) _ ⟨0, rfl, ao _, by omega, rfl⟩
 ·rw [this]; rfl
 ·rintro ⟨j, rfl, h1, h2, rfl⟩
  show iB n F l ((List.range j).map (fun (k : Nat) => zx l k)) l (l.length : Int) (j : Int) (dX b l) = _
  unfold iB
  rcases ak j l.length with hlt | hge
  ·rw [if_pos (ag (by omega)), if_pos (dc hlt), ai]
   show ((tV n l (l.getD j eS).1 (l.getD j eS).2.1 (l.getD j eS).2.2 (dX b l) 0).bind _) = _
   rw [Mw n hn0 hn h, ae, if_pos (by rw [bb, bO, ag (show (j + 1) * 8 ≤ 140737488355328 by omega)]; rfl), di (by omega)]
   refine hF _ _ ⟨j + 1, ?_, by omega, by omega, rfl⟩
   rw [List.range_succ, cq]
   rfl
  ·have : j = l.length := by omega
   subst this
   rw [if_neg (by simp)]
   rfl
end Go.Proofs.Dk
