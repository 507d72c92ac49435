/- A part of the proofs: Plain: the verdict, by the program and by the document. -/
import Derived.Test.YtofeifhecboinaaGreatMB6
import Derived.Test.YtofeifhecboinaaGreatMB5
set_option linter.unusedVariables false
set_option linter.unusedSimpArgs false
noncomputable section
namespace Go.Proofs.Dk
open Go Go.IntKind
set_option maxRecDepth 100000
theorem DX : fb 30000 = some true := rfl
theorem Kn (n : Nat) (hn1 : 200 < n) (hn2 : n < 1000000) (m : Img) (i : Nat) (hi : i < m.tasks.length) : h9 n (i : Int) m.1 m.2.1 m.2.2.1 m.2.2.2.1 m.2.2.2.2.1 m.2.2.2.2.2.1 m.2.2.2.2.2.2 = some (((dg m (i : Int)).1, (dg m (i : Int)).2.2.2.2.1, (jj n m (i : Int)).1), m.1, m.2.1, m.2.2.1, m.2.2.2.1, m.2.2.2.2.1, m.2.2.2.2.2.1, m.2.2.2.2.2.2) := by
 unfold h9
 rw [show iw n (m.1, m.2.1, m.2.2.1, m.2.2.2.1, m.2.2.2.2.1, m.2.2.2.2.2.1, m.2.2.2.2.2.2) (i : Int) = _ from RR n hn1 hn2 m i, ae, if_pos (dh hi), if_pos (dh hi)]
theorem Ko (n : Nat) (hn1 : 200 < n) (hn2 : n < 1000000) (m : Img) (i : Nat) (hi : i < m.tasks.length) (w : Int) : ic n (i : Int) w m.1 m.2.1 m.2.2.1 m.2.2.2.1 m.2.2.2.2.1 m.2.2.2.2.2.1 m.2.2.2.2.2.2 = some (((gS n m (i : Int)).1, w, (dg m (i : Int)).2.1, (dg m (i : Int)).2.2.1, (dg m (i : Int)).2.2.2.1, (dg m (i : Int)).1), m.1, m.2.1, m.2.2.1, m.2.2.2.1, m.2.2.2.2.1, m.2.2.2.2.2.1, m.2.2.2.2.2.2) := by
 unfold ic
 rw [if_pos (dh hi), show i8 n (m.1, m.2.1, m.2.2.1, m.2.2.2.1, m.2.2.2.2.1, m.2.2.2.2.2.1, m.2.2.2.2.2.2) (i : Int) = _ from U9 n hn1 hn2 m i, ae]
theorem CV {α : Type} (f : Nat → α) (i : Nat) : (List.range i).map f ++ [f i] = (List.range (i + 1)).map f := by
 rw [List.range_succ, cr]
 rfl
theorem Gs {α : Type} {l : List α} {i k : Nat} (h : l.length ≤ i) (hi : i ≤ 1000000) (hk : 1 ≤ k ∧ k ≤ 1000) : (decide ((l.length + 1) * k ≤ 140737488355328) && decide (1 ≤ k)) = true := by
 rw [af (show (l.length + 1) * k ≤ 140737488355328 by
  have : (l.length + 1) * k ≤ 1000001 * 1000 := Nat.mul_le_mul (by omega) hk.2
  omega), af hk.1]
 rfl
theorem Vk (n : Nat) (hn : n = 30000) (m : Img) (hd : CS m) : sf n m = some (jd m) := by
 unfold sf jd
 rw [show kx n (m.1, m.2.1, m.2.2.1, m.2.2.2.1, m.2.2.2.2.1, m.2.2.2.2.2.1, m.2.2.2.2.2.2) = some (ew 30000 m) from by rw [← hn]; exact Vc n (by omega) (by omega) m, ae]
 by_cases h : (ew 30000 m).2 ≠ 0
 ·rw [if_pos (aj.2 h), if_pos h]
 ·rw [if_neg (fun e => h (aj.1 e)), if_neg h]
  have hz := Decidable.not_not.1 h
  have hU := yD hz
  have h8 : m.tasks.length ≤ 8 := by rw [← iG]; exact (DW hz).len
  have e0 := d5 (S := fun F => (jk (dr q_)) (sd n F)) (fun f x r => ∃ i : Nat, x = ((List.range i).map (fun (k : Nat) => JP m k), (m.tasks.length : Int), (i : Int), m.1, m.2.1, m.2.2.1, m.2.2.2.1, m.2.2.2.2.1, m.2.2.2.2.2.1, m.2.2.2.2.2.2, 0, 0, [], [], [], m.1, m.2.1, m.2.2.1, m.2.2.2.1, m.2.2.2.2.1, m.2.2.2.2.2.1, m.2.2.2.2.2.2) ∧ i ≤ m.tasks.length ∧ m.tasks.length < f + i ∧ r = (dZ m, m.1, m.2.1, m.2.2.1, m.2.2.2.1, m.2.2.2.2.1, m.2.2.2.2.2.1, m.2.2.2.2.2.2, 0, 0, [], [], [], m.1, m.2.1, m.2.2.1, m.2.2.2.1, m.2.2.2.2.1, m.2.2.2.2.2.1, m.2.2.2.2.2.2)) (fun x r ⟨i, _, h1, h2, _⟩ => by omega) (fun f x F hF r => ?_) n ([], (m.tasks.length : Int), 0, m.1, m.2.1, m.2.2.1, m.2.2.2.1, m.2.2.2.2.1, m.2.2.2.2.2.1, m.2.2.2.2.2.2, 0, 0, [], [], [], m.1, m.2.1, m.2.2.1, m.2.2.2.1, m.2.2.2.2.1, m.2.2.2.2.2.1, m.2.2.2.2.2.2) _ ⟨0, rfl, am _, by omega, rfl⟩
  ·unfold wz
   rw [e0, ae]
   show (fY n (m.blocks.length : Int) (dZ m)).bind _ = _
   rw [zC n (by omega) (by omega) hU, ae]
   show (jI n (m.blocks.length : Int) (dZ m)).bind _ = _
   rw [Vj n (by omega) (by omega) hU, ae]
   have e1 := d5 (S := fun F => (jk (di q_)) (se n F)) (fun f x r => ∃ i : Nat, x = (e8 (dZ m), (m.tasks.length : Int), (i : Int), 0, 0, [], [], [], 0, 0, (List.range i).map (fun (k : Nat) => rz m k), [], d8 (m.blocks.length : Int) (dZ m), m.1, m.2.1, m.2.2.1, m.2.2.2.1, m.2.2.2.2.1, m.2.2.2.2.2.1, m.2.2.2.2.2.2) ∧ i ≤ m.tasks.length ∧ m.tasks.length < f + i ∧ r = (0, 0, [], [], [], 0, 0, e9 m, [], d8 (m.blocks.length : Int) (dZ m), m.1, m.2.1, m.2.2.1, m.2.2.2.1, m.2.2.2.2.1, m.2.2.2.2.2.1, m.2.2.2.2.2.2)) (fun x r ⟨i, _, h1, h2, _⟩ => by omega) (fun f x F hF r => ?_) n (e8 (dZ m), (m.tasks.length : Int), 0, 0, 0, [], [], [], 0, 0, [], [], d8 (m.blocks.length : Int) (dZ m), m.1, m.2.1, m.2.2.1, m.2.2.2.1, m.2.2.2.2.1, m.2.2.2.2.2.1, m.2.2.2.2.2.2) _ ⟨0, rfl, am _, by omega, rfl⟩
   ·unfold wA
    show (it _ n (e8 (dZ m), ((e8 (dZ m)).length : Int), 0, 0, 0, [], [], [], 0, 0, [], [], d8 (m.blocks.length : Int) (dZ m), m.1, m.2.1, m.2.2.1, m.2.2.2.1, m.2.2.2.2.1, m.2.2.2.2.2.1, m.2.2.2.2.2.2)).bind _ = _
    rw [show (e8 (dZ m)).length = m.tasks.length by rw [CT, gf], e1, ae]
    show (jN n (e9 m)).bind _ = _
    rw [RY n (by omega) (by omega) (DW hz) (Gr hz hd), ae]
   ·rintro ⟨i, rfl, h1, h2, rfl⟩
    show se n F (e8 (dZ m)) (m.tasks.length : Int) (i : Int) 0 0 [] [] [] 0 0 ((List.range i).map (fun (k : Nat) => rz m k)) [] (d8 (m.blocks.length : Int) (dZ m)) m.1 m.2.1 m.2.2.1 m.2.2.2.1 m.2.2.2.2.1 m.2.2.2.2.2.1 m.2.2.2.2.2.2 = _
    unfold se
    rcases ak i m.tasks.length with hlt | hge
    ·rw [if_pos (af (by omega)), if_pos (dh (by rw [CT, gf]; exact hlt)), Ko n (by omega) (by omega) m i hlt, ae, if_pos (Gs (i := i) (by rw [bj, cf]; exact aq _) (by omega) (by decide)), dk (by omega)]
     refine hF _ _ ⟨i + 1, ?_, by omega, by omega, rfl⟩
     rw [← CV, hn]
     rfl
    ·have : i = m.tasks.length := by omega
     subst this
     rw [if_neg (by simp)]
     rfl
  ·rintro ⟨i, rfl, h1, h2, rfl⟩
   show sd n F ((List.range i).map (fun (k : Nat) => JP m k)) (m.tasks.length : Int) (i : Int) m.1 m.2.1 m.2.2.1 m.2.2.2.1 m.2.2.2.2.1 m.2.2.2.2.2.1 m.2.2.2.2.2.2 0 0 [] [] [] m.1 m.2.1 m.2.2.1 m.2.2.2.1 m.2.2.2.2.1 m.2.2.2.2.2.1 m.2.2.2.2.2.2 = _
   unfold sd
   rcases ak i m.tasks.length with hlt | hge
   ·rw [if_pos (af (by omega)), Kn n (by omega) (by omega) m i hlt, ae, if_pos (Gs (i := i) (by rw [bj, cf]; exact aq _) (by omega) (by decide)), dk (by omega)]
    refine hF _ _ ⟨i + 1, ?_, by omega, by omega, rfl⟩
    rw [← CV, hn]
    rfl
   ·have : i = m.tasks.length := by omega
    subst this
    rw [if_neg (by simp)]
    rfl
theorem NQ (n : Nat) (hn : 200 < n) (hn2 : n < 1000000) {m : Img} (h : Sh.Sm Y7 m) : pF n m = some 0 ∨ (pF n m = some 1 ∧ JF m ∧ CS m) := by
 unfold pF
 rcases RS n hn hn2 h with e | ⟨e, hL⟩
 ·left
  rw [show oZ n (m.1, m.2.1, m.2.2.1, m.2.2.2.1, m.2.2.2.2.1, m.2.2.2.2.2.1, m.2.2.2.2.2.2) = some 0 from e, ae]
  rfl
 ·rw [show oZ n (m.1, m.2.1, m.2.2.1, m.2.2.2.1, m.2.2.2.2.1, m.2.2.2.2.2.1, m.2.2.2.2.2.2) = some 1 from e, ae, if_neg (by decide)]
  have h80 := hL.1
  unfold vj
  by_cases hD : CS m
  ·right
   refine ⟨?_, hL, hD⟩
   have := d5 (S := fun F => (dr (di q_)) (lF n F)) (fun f x r => ∃ i : Nat, x = ((i : Int), m.1, m.2.1, m.2.2.1, m.2.2.2.1, m.2.2.2.2.1, m.2.2.2.2.2.1, m.2.2.2.2.2.2) ∧ i ≤ m.tasks.length ∧ m.tasks.length < f + i ∧ r = .inr ((), ((m.1, m.2.1, m.2.2.1, m.2.2.2.1, m.2.2.2.2.1, m.2.2.2.2.2.1, m.2.2.2.2.2.2, ()), ()))) (fun x r ⟨i, _, h1, h2, _⟩ => by omega) (fun f x F hF r => ?_) n (0, m.1, m.2.1, m.2.2.1, m.2.2.2.1, m.2.2.2.2.1, m.2.2.2.2.2.1, m.2.2.2.2.2.2) _ ⟨0, rfl, am _, by omega, rfl⟩
   ·rw [this]; rfl
   ·rintro ⟨i, rfl, h1, h2, rfl⟩
    show lF n F (i : Int) m.1 m.2.1 m.2.2.1 m.2.2.2.1 m.2.2.2.2.1 m.2.2.2.2.2.1 m.2.2.2.2.2.2 = _
    unfold lF
    rcases ak i m.tasks.length with hlt | hge
    ·rw [if_pos (af (show (i : Int) < (m.tasks.length : Int) by omega)), if_pos (dh hlt)]
     have hm := hD _ (tW hlt)
     by_cases c : (dg m (i : Int)).2.2.1 > 20000
     ·rw [if_pos (af c), if_pos (dh hlt), if_neg (fun e => hm ⟨c, aC e⟩), dk (by omega)]
      exact hF _ _ ⟨i + 1, rfl, by omega, by omega, rfl⟩
     ·rw [if_neg (fun e => c (aC e)), dk (by omega)]
      exact hF _ _ ⟨i + 1, rfl, by omega, by omega, rfl⟩
    ·have : i = m.tasks.length := by omega
     subst this
     rw [if_neg (by simp)]
  ·left
   have hex : ∃ t ∈ m.tasks, t.2.2.1 > 20000 ∧ t.2.2.1 ≤ 1048576 := by
    refine cG fun hn => hD fun t ht c => hn ⟨t, ht, c⟩
   obtain ⟨t, ht, hc⟩ := hex
   obtain ⟨k, hk, rfl⟩ := bP ht
   have hg : dg m (k : Int) = m.tasks[k] := by
    show m.tasks.getD (k : Int).toNat _ = _
    rw [ai, ar, av hk]
    rfl
   rw [← hg] at hc
   have := d5 (S := fun F => (dr (di q_)) (lF n F)) (fun f x r => ∃ i : Nat, x = ((i : Int), m.1, m.2.1, m.2.2.1, m.2.2.2.1, m.2.2.2.2.1, m.2.2.2.2.2.1, m.2.2.2.2.2.2) ∧ i ≤ k ∧ m.tasks.length < f + i ∧ r = .inl ((0, ()), ((m.1, m.2.1, m.2.2.1, m.2.2.2.1, m.2.2.2.2.1, m.2.2.2.2.2.1, m.2.2.2.2.2.2, ()), ()))) (fun x r ⟨i, _, h1, h2, _⟩ => by omega) (fun f x F hF r => ?_) n (0, m.1, m.2.1, m.2.2.1, m.2.2.2.1, m.2.2.2.2.1, m.2.2.2.2.2.1, m.2.2.2.2.2.2) _ ⟨0, rfl, am _, by omega, rfl⟩
   ·rw [this]; rfl
   ·rintro ⟨i, rfl, h1, h2, rfl⟩
    show lF n F (i : Int) m.1 m.2.1 m.2.2.1 m.2.2.2.1 m.2.2.2.2.1 m.2.2.2.2.2.1 m.2.2.2.2.2.2 = _
    unfold lF
    have hlt : i < m.tasks.length := by omega
    rw [if_pos (af (show (i : Int) < (m.tasks.length : Int) by omega)), if_pos (dh hlt)]
    by_cases c : (dg m (i : Int)).2.2.1 > 20000
    ·by_cases c2 : (dg m (i : Int)).2.2.1 ≤ 1048576
     ·rw [if_pos (af c), if_pos (dh hlt), if_pos (af c2)]
     ·rw [if_pos (af c), if_pos (dh hlt), if_neg (fun e => c2 (aC e)), dk (by omega)]
      refine hF _ _ ⟨i + 1, rfl, ?_, by omega, rfl⟩
      have : i ≠ k := fun e => c2 (e ▸ hc.2)
      omega
    ·rw [if_neg (fun e => c (aC e)), dk (by omega)]
     refine hF _ _ ⟨i + 1, rfl, ?_, by omega, rfl⟩
     have : i ≠ k := fun e => c (e ▸ hc.1)
     omega
theorem Vl {l : List Row} (hl : RowsB l) {i : Nat} (hi : i < l.length) : ∀ (f : Nat) (w v e : Int), 0 ≤ w → w ≤ 1048576 → CN l i f w = some (v, e) → (e = 13 ∧ v = 0) ∨ (e = 0 ∧ ∃ u, 0 ≤ u ∧ eA l i u = u ∧ v = (l.getD i dC).2.2.2.2.1 + u ∧ v ≤ (l.getD i dC).2.2.2.1 ∧ ∀ z, w ≤ z → z ≤ 1048576 → eA l i z ≤ z → u ≤ z) := by
 have hd := (hl.get hi).d
 intro f
 induction f with
 | zero => intro w v e h0 h1 h; cases h
 | succ f ih =>
  intro w v e h0 h1 h
  have h' : gZ l i (it (gZ l i) f) w = some (v, e) := h
  unfold gZ at h'
  split at h'
  ·simp only [ab, ah] at h'
   exact .inl ⟨h'.2.symm, h'.1.symm⟩
  ·split at h'
   ·simp only [ab, ah] at h'
    exact .inl ⟨h'.2.symm, h'.1.symm⟩
   ·split at h'
    ·rename_i c1 c2 c3
     simp only [ab, ah] at h'
     refine .inr ⟨h'.2.symm, w, h0, c3, h'.1.symm, by omega, fun z hz _ _ => hz⟩
    ·rename_i c1 c2 c3
     have hg := (tU hl hi (w := w) (by omega)).2
     rcases ih _ v e hg (by omega) h' with h2 | ⟨h2, u, u0, u1, u2, u3, u4⟩
     ·exact .inl h2
     ·refine .inr ⟨h2, u, u0, u1, u2, u3, fun z hz hz2 hn => u4 z ?_ hz2 hn⟩
      have := CM hl i h0 hz (by omega)
      omega
theorem NR {l : List Row} (hl : RowsB l) {i : Nat} (hi : i < l.length) (hd : (l.getD i dC).2.2.2.1 ≤ 20000) : ((fL l i).2 = 13 ∧ (fL l i).1 = 0) ∨ ((fL l i).2 = 0 ∧ ∃ u, 0 ≤ u ∧ eA l i u = u ∧ (fL l i).1 = (l.getD i dC).2.2.2.2.1 + u ∧ (fL l i).1 ≤ (l.getD i dC).2.2.2.1 ∧ ∀ z, 0 ≤ z → z ≤ 1048576 → eA l i z ≤ z → u ≤ z) :=
 Vl hl hi 25000 0 _ _ (aH _) (by omega) (CO hl hi hd (aq _))
theorem CW (R : Nat → Int × Int) : ∀ (k i : Nat) (o : List Int), (∃ j, i ≤ j ∧ j < i + k ∧ (R j).2 ≠ 0 ∧ xU R k i o = ([], (j : Int), (R j).2)) ∨ ((∀ j, i ≤ j → j < i + k → (R j).2 = 0) ∧ xU R k i o = (o ++ (List.range' i k).map (fun j => (R j).1), -1, 0))
 | 0, i, o => .inr ⟨fun j h1 h2 => by omega, by unfold xU; simp⟩
 | k + 1, i, o => by
  unfold xU
  by_cases h : (R i).2 ≠ 0
  ·rw [if_pos h]
   exact .inl ⟨i, aq _, by omega, h, rfl⟩
  ·rw [if_neg h]
   rcases CW R k (i + 1) (o ++ [(R i).1]) with ⟨j, h1, h2, h3, h4⟩ | ⟨h1, h2⟩
   ·exact .inl ⟨j, by omega, by omega, h3, h4⟩
   ·refine .inr ⟨fun j j1 j2 => ?_, ?_⟩
    ·rcases Nat.eq_or_lt_of_le j1 with rfl | j3
     ·exact Decidable.not_not.1 h
     ·exact h1 j (by omega) (by omega)
    ·rw [h2, List.range'_succ, List.map_cons, aO]
     rfl
theorem NS (l : List Row) : (∃ j, j < l.length ∧ (fL l j).2 ≠ 0 ∧ Bi l = ([], (j : Int), (fL l j).2)) ∨ ((∀ j, j < l.length → (fL l j).2 = 0) ∧ Bi l = ((List.range l.length).map (fun j => (fL l j).1), -1, 0)) := by
 unfold Bi
 rcases CW (fL l) l.length 0 [] with ⟨j, h1, h2, h3, h4⟩ | ⟨h1, h2⟩
 ·exact .inl ⟨j, by omega, h3, h4⟩
 ·refine .inr ⟨fun j hj => h1 j (am _) (by omega), ?_⟩
  rw [h2, List.range_eq_range']
  rfl
theorem Kp (m : Img) (hd : CS m) : ((ew 30000 m).2 ≠ 0 ∧ jd m = ((ew 30000 m).2, (ew 30000 m).1, [], [], [])) ∨
  ((ew 30000 m).2 = 0 ∧ ∃ j, j < m.tasks.length ∧ (fL (e9 m) j).2 = 13 ∧ jd m = (13, (j : Int), e9 m, [], d8 (m.blocks.length : Int) (dZ m))) ∨
  ((ew 30000 m).2 = 0 ∧ (∀ j, j < m.tasks.length → (fL (e9 m) j).2 = 0) ∧ jd m = (0, -1, e9 m, (List.range m.tasks.length).map (fun j => (fL (e9 m) j).1), d8 (m.blocks.length : Int) (dZ m))) := by
 unfold jd
 by_cases h : (ew 30000 m).2 ≠ 0
 ·rw [if_pos h]; exact .inl ⟨h, rfl⟩
 ·rw [if_neg h]
  have hz := Decidable.not_not.1 h
  right
  have hL := iG m
  rcases NS (e9 m) with ⟨j, h1, h2, h3⟩ | ⟨h1, h2⟩
  ·left
   rw [hL] at h1
   have hd' : ((e9 m).getD j dC).2.2.2.1 ≤ 20000 := Gr hz hd _ (by rw [ar, av (by omega)]; exact aU _)
   rcases NR (DW hz) (by omega) hd' with ⟨h4, _⟩ | ⟨h4, _⟩
   ·exact ⟨hz, j, h1, h4, by rw [h3, h4]⟩
   ·exact absurd h4 h2
  ·right
   rw [hL] at h1
   exact ⟨hz, h1, by rw [h2, hL]⟩
structure RowLe (r' r : Row) : Prop where
 c : r'.1 = r.1
 b : r'.2.1 ≤ r.2.1
 t : r.2.2.1 ≤ r'.2.2.1
 d : r'.2.2.2.1 = r.2.2.2.1
 j : r'.2.2.2.2.1 = r.2.2.2.2.1
 p : r'.2.2.2.2.2 = r.2.2.2.2.2
def LessR : List Row → List Row → Prop
 | [], _ => True
 | r' :: t', r :: t => RowLe r' r ∧ LessR t' t
 | _ :: _, [] => False
theorem LessR.get : ∀ {l' l : List Row}, LessR l' l → ∀ {i : Nat}, i < l'.length → RowLe (l'.getD i dC) (l.getD i dC)
 | [], _, _, i, hi => by simp at hi
 | r' :: t', r :: t, h, 0, hi => h.1
 | r' :: t', r :: t, h, i + 1, hi => by
  have := LessR.get (l' := t') (l := t) h.2 (i := i) (by simpa using hi)
  simpa using this
 | _ :: _, [], h, _, _ => h.elim
theorem LessR.len : ∀ {l' l : List Row}, LessR l' l → l'.length ≤ l.length
 | [], _, _ => am _
 | r' :: t', r :: t, h => by
  have := LessR.len h.2
  simp only [aE]
  omega
 | _ :: _, [], h => h.elim
theorem NT (a m : Int) : m ≤ hi a m ∧ a ≤ hi a m := by unfold hi; split <;> omega
theorem Mp {a m m' : Int} (h : m ≤ m') : hi a m ≤ hi a m' := by unfold hi; split <;> split <;> omega
theorem CX (c : Int → Int) (p q : Int) : ∀ (s t : List Int) (m : Int), m ≤ gT c p q s t m
 | [], [], m => aH _
 | [], _ :: _, m => aH _
 | _ :: _, [], m => aH _
 | k :: s, a :: t, m => by
  unfold gT
  have h1 := CX c p q s t (if q < p then if c k ≥ p then hi a m else m else m)
  have h2 : m ≤ (if q < p then if c k ≥ p then hi a m else m else m) := by
   have := (NT a m).1
   split
   ·split <;> omega
   ·omega
  omega
theorem CY {c c' : Int → Int} (hc : ∀ k, c k ≤ c' k) (p q : Int) : ∀ (s t : List Int) {m m' : Int}, m ≤ m' → gT c p q s t m ≤ gT c' p q s t m'
 | [], [], m, m', h => h
 | [], _ :: _, m, m', h => h
 | _ :: _, [], m, m', h => h
 | k :: s, a :: t, m, m', h => by
  unfold gT
  refine CY hc p q s t ?_
  have h1 := hc k
  have h2 := Mp (a := a) h
  have h3 := (NT a m').1
  split
  ·split
   ·rw [if_pos (by omega)]; exact h2
   ·split <;> omega
  ·exact h
theorem CZ (c : Int → Int) (p : Int) : ∀ (l : List fI) (m : Int), m ≤ iS c p l m
 | [], m => aH _
 | u :: t, m => by
  unfold iS
  exact bf (CX c p u.1 u.2.1 u.2.2 m) (CZ c p t _)
theorem C0 {c c' : Int → Int} (hc : ∀ k, c k ≤ c' k) (p : Int) : ∀ (l : List fI) (j : Nat) {m m' : Int}, m ≤ m' → iS c p (l.take j) m ≤ iS c' p l m'
 | [], j, m, m', h => by rw [List.take_nil]; exact h
 | u :: t, 0, m, m', h => bf h (CZ c' p (u :: t) m')
 | u :: t, j + 1, m, m', h => by
  rw [List.take_succ_cons]
  unfold iS
  exact C0 hc p t j (CY hc p u.1 u.2.1 u.2.2 h)
theorem C1 (p k : Int) : ∀ (s : List Int) (m : Int), m ≤ ii p k s m
 | [], m => aH _
 | x :: t, m => by
  unfold ii
  have h1 := C1 p k t (if x = k then hi p m else m)
  have h2 := (NT p m).1
  split at h1 <;> (rename_i c; first | rw [if_pos c] | rw [if_neg c]) <;> omega
theorem C2 (p k : Int) : ∀ (s : List Int) {m m' : Int}, m ≤ m' → ii p k s m ≤ ii p k s m'
 | [], _, _, h => h
 | x :: t, m, m', h => by
  unfold ii
  refine C2 p k t ?_
  have := Mp (a := p) h
  split <;> assumption
theorem C3 (k : Int) : ∀ (l : List fI) (m : Int), m ≤ k0 k l m
 | [], m => aH _
 | u :: t, m => by
  unfold k0
  exact bf (C1 u.1 k u.2.1 m) (C3 k t _)
theorem C4 (k : Int) : ∀ (l : List fI) (j : Nat) {m m' : Int}, m ≤ m' → k0 k (l.take j) m ≤ k0 k l m'
 | [], j, m, m', h => by rw [List.take_nil]; exact h
 | u :: t, 0, m, m', h => bf h (C3 k (u :: t) m')
 | u :: t, j + 1, m, m', h => by
  rw [List.take_succ_cons]
  unfold k0
  exact C4 k t j (C2 u.1 k u.2.1 h)
theorem NU (l : List fI) {i j : Nat} (hi : i < j) : pc (l.take j) i ≤ pc l i := by
 unfold pc
 rw [show (l.take j).getD i eN = l.getD i eN by rw [ar, ar, aT, if_pos hi]]
 exact C0 (fun k => C4 k l j (aH 0)) _ l j (aH 0)
structure SameBut (x m : Img) : Prop where
 s : x.1 = m.1
 l : x.2.1 = m.2.1
 c : x.2.2.1 = m.2.2.1
 i : x.inputs = m.inputs
 f : x.safe = m.safe
 b : x.blocks = m.blocks
 n : 1 ≤ x.tasks.length ∧ x.tasks.length ≤ m.tasks.length
 t : ∀ i, i < x.tasks.length → (dg x (i : Int)).1 = (dg m (i : Int)).1 ∧ (dg m (i : Int)).2.1 ≤ (dg x (i : Int)).2.1 ∧ (dg x (i : Int)).2.1 ≤ 1048576 ∧ (dg x (i : Int)).2.2 = (dg m (i : Int)).2.2
 o : x.tasks.flatMap Tsk.outs = (m.tasks.take x.tasks.length).flatMap Tsk.outs
theorem Vm {x : Img} {t : Tsk} (h : t ∈ x.tasks) : ∃ i, i < x.tasks.length ∧ t = dg x (i : Int) := by
 obtain ⟨i, hi, rfl⟩ := bP h
 refine ⟨i, hi, ?_⟩
 show _ = x.tasks.getD (i : Int).toNat _
 rw [ai, ar, av hi]
 rfl
theorem R0 {s : List Int} : ∀ {a b : List Int}, apart s (a ++ b) = true → apart s a = true := by
 intro a b h
 rw [p9, ao] at h
 exact h.1
theorem qc {t' t : Tsk} (h : t'.2.2 = t.2.2) : t'.blocks = t.blocks ∧ t'.outs = t.outs ∧ t'.code = t.code := ⟨congrArg (fun q => q.2.2.1) h, congrArg (fun q => q.2.2.2.1) h, congrArg (fun q => q.2.2.2.2) h⟩
theorem SameBut.right {x m : Img} (h : SameBut x m) (hR : RightP m) : RightP x := by
 obtain ⟨hN, hW, hT⟩ := hR
 have hTa := TasksOk.all.1 hT
 refine ⟨?_, by rw [h.b]; exact hW, TasksOk.all.2 ⟨fun t ht => ?_, ?_⟩⟩
 ·obtain ⟨n1, n2, n3, n4, n5, n6, n7⟩ := hN
  unfold yC
  rw [h.s, h.l, h.c, show x.2.2.2.1 = m.2.2.2.1 from h.i, h.f, h.b]
  have := h.n
  exact ⟨n1, n2, n3, n4, n5, n6, by omega⟩
 ·obtain ⟨i, hi, rfl⟩ := Vm ht
  obtain ⟨e1, e2, e3, e4⟩ := h.t i hi
  obtain ⟨⟨m1, m2, m3, m4⟩, k1, k2, k3⟩ := hTa.1 _ (tW (m := m) (i := i) (by have := h.n; omega))
  obtain ⟨f1, f2, f3⟩ := qc e4
  refine ⟨⟨by omega, by omega, ?_, ?_⟩, ?_, ?_, ?_⟩
  ·rw [e4]; omega
  ·rw [e4]; exact m4
  ·rw [f1, h.b]; exact k1
  ·rw [f2, h.f]; exact k2
  ·rw [f3]; exact k3
 ·rw [h.o]
  refine R0 (b := (m.tasks.drop x.tasks.length).flatMap Tsk.outs) ?_
  rw [← List.flatMap_append, bz]
  exact hTa.2
theorem R3 {x m : Img} (h : SameBut x m) {t t' : Tsk} (ht : t'.2.2 = t.2.2) (i : da) : j8 x t' i = j8 m t i := by
 unfold j8
 rw [h.i, h.b, (qc ht).2.1]
theorem SameBut.task {n : Nat} {x m : Img} (h : SameBut x m) (hR : RightP m) {i : Nat} (hi : i < x.tasks.length) : fB n x (i : Int) = fB n m (i : Int) := by
 obtain ⟨e1, e2, e3, e4⟩ := h.t i hi
 have hn := h.n
 unfold fB
 rw [if_pos (h.right hR), if_pos hR, if_neg (show ¬ ((i : Int) < 0 ∨ (i : Int) ≥ (x.tasks.length : Int)) by omega), if_neg (show ¬ ((i : Int) < 0 ∨ (i : Int) ≥ (m.tasks.length : Int)) by omega)]
 show (if (eS bM n (dg x (i : Int)).code).2 ≠ 0 then (eS bM n (dg x (i : Int)).code).2 else if fA (dg x (i : Int)).code = (dg x (i : Int)).blocks then (if (dg x (i : Int)).code.all (j8 x (dg x (i : Int))) = true then 0 else 12) else 11) = _
 obtain ⟨f1, f2, f3⟩ := qc e4
 rw [funext (R3 h e4), f1, f3]
theorem SameBut.locked {x m : Img} (h : SameBut x m) (hR : RightP m) {i : Nat} (hi : i < x.tasks.length) : jj 30000 x (i : Int) = jj 30000 m (i : Int) := by
 unfold jj
 rw [h.task hR hi, (qc (h.t i hi).2.2.2).2.2]
theorem SameBut.slots {x m : Img} (h : SameBut x m) (hR : RightP m) {i : Nat} (hi : i < x.tasks.length) : gS 30000 x (i : Int) = gS 30000 m (i : Int) := by
 unfold gS
 rw [h.task hR hi, (qc (h.t i hi).2.2.2).2.2, h.s, h.l, h.c]
theorem SameBut.uses {x m : Img} (h : SameBut x m) (hR : RightP m) : dZ x = (dZ m).take x.tasks.length := by
 unfold dZ
 rw [← List.map_take, List.take_range, cm h.n.2]
 refine bs fun i hi => ?_
 have hi' : i < x.tasks.length := by simpa using hi
 unfold JP
 rw [h.locked hR hi', (h.t i hi').1, (h.t i hi').2.2.2]
theorem Wo {l' l : List Row} (hl : l'.length ≤ l.length) (h : ∀ i, i < l'.length → RowLe (l'.getD i dC) (l.getD i dC)) : LessR l' l := by
 induction l' generalizing l with
 | nil => trivial
 | cons r' t' ih =>
  cases l with
  | nil => simp at hl
  | cons r t => exact ⟨h 0 (by simp), ih (by simpa using hl) fun i hi => by simpa using h (i + 1) (by simpa using hi)⟩
theorem SameBut.rows {x m : Img} (h : SameBut x m) (hz : (ew 30000 m).2 = 0) : LessR (e9 x) (e9 m) := by
 obtain ⟨hR, _, hz'⟩ := gb hz
 refine Wo (by rw [iG, iG]; exact h.n.2) fun i hi => ?_
 rw [iG] at hi
 obtain ⟨e1, e2, e3, e4⟩ := h.t i hi
 have hi' : i < m.tasks.length := by have := h.n; omega
 rw [xX x hi, xX m hi']
 unfold rz
 refine ⟨?_, ?_, e2, ?_, ?_, e1⟩
 ·show (gS 30000 x (i : Int)).1 = (gS 30000 m (i : Int)).1
  rw [h.slots hR hi]
 ·show (e8 (dZ x)).getD i 0 ≤ (e8 (dZ m)).getD i 0
  rw [pd (by rw [gf]; exact hi), pd (by rw [gf]; exact hi'), h.uses hR]
  exact NU _ hi
 ·show (dg x (i : Int)).2.2.1 = (dg m (i : Int)).2.2.1
  rw [e4]
 ·show (dg x (i : Int)).2.2.2.1 = (dg m (i : Int)).2.2.2.1
  rw [e4]
theorem R4 {m : Img} {i : Nat} (hi : i < m.tasks.length) (k v : Int) : k0 k ((dZ m).drop i) v = k0 k ((dZ m).drop (i + 1)) (ii (dg m (i : Int)).1 k (dg m (i : Int)).2.2.2.2.1 v) := by
 rw [dM (d := eN) (by rw [gf]; exact hi), xW m hi]
 rfl
theorem Gt {c : Int → Int} {p q : Int} (h : ¬ q < p) : ∀ (s t : List Int) (m : Int), gT c p q s t m = m
 | [], [], m => rfl
 | [], _ :: _, m => rfl
 | _ :: _, [], m => rfl
 | k :: s, a :: t, m => by
  unfold gT
  rw [if_neg h]
  exact Gt h s t m
theorem Gu {c : Int → Int} {p : Int} : ∀ {l : List fI} {m : Int}, (∀ u ∈ l, ¬ u.1 < p) → iS c p l m = m
 | [], m, _ => rfl
 | u :: t, m, h => by
  unfold iS
  rw [Gt (h u (aB ..))]
  exact Gu fun v hv => h v (ay _ hv)
def xY (p : Int) : List Tsk → Bool → Bool
 | [], b => b
 | t :: r, b => xY p r (b && decide (t.1 ≥ p))
theorem JS {p : Int} : ∀ {l : List Tsk} {b : Bool}, xY p l b = true → b = true ∧ ∀ t ∈ l, p ≤ t.1
 | [], b, h => ⟨h, fun t ht => by cases ht⟩
 | t :: r, b, h => by
  obtain ⟨h1, h2⟩ := JS (l := r) h
  simp only [ao, aw] at h1
  refine ⟨h1.1, fun x hx => ?_⟩
  rcases aA.1 hx with rfl | hx
  ·exact h1.2
  ·exact h2 x hx
theorem Vn {m : Img} {i : Nat} (hi : i < m.tasks.length) (h : xY (dg m (i : Int)).1 m.tasks true = true) : (e8 (dZ m)).getD i 0 = 0 := by
 rw [pd (by rw [gf]; exact hi)]
 unfold pc
 refine Gu fun u hu => ?_
 rw [xW m hi]
 unfold dZ at hu
 obtain ⟨j, hj, rfl⟩ := List.mem_map.1 hu
 have hj' : j < m.tasks.length := by simpa using hj
 have := (JS h).2 _ (tW hj')
 show ¬ (dg m (j : Int)).1 < (dg m (i : Int)).1
 omega
theorem Wq : ∀ b i : Fin 8, (bits .and .u64 ((IntKind.wrap .u64 (wrap .i64 (1 * 2 ^ (min ((b.val : Nat) : Int).toNat 64)))).fdiv (2 ^ (min ((i.val : Nat) : Int).toNat 64))) 1 == 1) = decide (b.val = i.val) := by decide +kernel
theorem NV (n : Nat) (hn : 200 < n) (hn2 : n < 1000000) (p : Int) (b : Nat) (c : List Int) (hb : b < c.length) (h8 : c.length ≤ 8) : jb n p (wrap .i64 (1 * 2 ^ (min ((b : Nat) : Int).toNat 64))) c = some (hi (c.getD b 0) p) := by
 unfold jb lx
 have := d5 (S := fun F => (di (C_ q_)) (iC n F)) (fun f x r => ∃ i : Nat, x = (wrap .i64 (1 * 2 ^ (min ((b : Nat) : Int).toNat 64)), (if b < i then hi (c.getD b 0) p else p), c, (c.length : Int), (i : Int)) ∧ i ≤ c.length ∧ c.length < f + i ∧ r = hi (c.getD b 0) p) (fun x r ⟨i, _, h1, h2, _⟩ => by omega) (fun f x F hF r => ?_) n (wrap .i64 (1 * 2 ^ (min ((b : Nat) : Int).toNat 64)), p, c, (c.length : Int), 0) _ ⟨0, rfl, am _, by omega, rfl⟩
 ·rw [this]; rfl
 ·rintro ⟨i, rfl, h1, h2, rfl⟩
  show iC n F (wrap .i64 (1 * 2 ^ (min ((b : Nat) : Int).toNat 64))) (if b < i then hi (c.getD b 0) p else p) c (c.length : Int) (i : Int) = _
  unfold iC
  rcases ak i c.length with hlt | hge
  ·rw [if_pos (af (by omega)), if_pos (dh hlt), if_neg (fun k => by have := aC k; omega), Wq ⟨b, by omega⟩ ⟨i, by omega⟩, dk (by omega)]
   by_cases e : b = i
   ·subst e
    rw [if_pos (af rfl)]
    refine hF _ _ ⟨b + 1, ?_, by omega, by omega, rfl⟩
    rw [if_neg (Nat.lt_irrefl _), if_pos (Nat.lt_succ_self _), ai]
    rfl
   ·rw [if_neg (fun k => e (aC k))]
    refine hF _ _ ⟨i + 1, ?_, by omega, by omega, rfl⟩
    by_cases e2 : b < i
    ·rw [if_pos e2, if_pos (by omega)]
    ·rw [if_neg e2, if_neg (by omega)]
  ·have : i = c.length := by omega
   subst this
   rw [if_neg (by simp), if_pos hb]
theorem R5 (n : Nat) (hn : n = 30000) {m : Img} (v : Vd) (b z : Int) {i : Nat} (hii : i < m.tasks.length) (h8 : (dg m (i : Int)).2.2.2.2.1.length ≤ 80) : tJ n (b, z, (i : Int), 0, m.1, m.2.1, m.2.2.1, m.2.2.2.1, m.2.2.2.2.1, m.2.2.2.2.2.1, m.2.2.2.2.2.2, v.1, v.2.1, v.2.2.1, v.2.2.2.1, v.2.2.2.2) = some (b, ii (dg m (i : Int)).1 b (dg m (i : Int)).2.2.2.2.1 z, (i : Int), m.1, m.2.1, m.2.2.1, m.2.2.2.1, m.2.2.2.2.1, m.2.2.2.2.2.1, m.2.2.2.2.2.2, v.1, v.2.1, v.2.2.1, v.2.2.2.1, v.2.2.2.2) := by
 unfold tJ
 refine d5 (S := fun F => (ep (dr (di q_))) (xE n F)) (fun f x r => ∃ (k : Nat) (z : Int), x = (b, z, (i : Int), (k : Int), m.1, m.2.1, m.2.2.1, m.2.2.2.1, m.2.2.2.2.1, m.2.2.2.2.2.1, m.2.2.2.2.2.2, v.1, v.2.1, v.2.2.1, v.2.2.2.1, v.2.2.2.2) ∧ k ≤ (dg m (i : Int)).2.2.2.2.1.length ∧ (dg m (i : Int)).2.2.2.2.1.length < f + k ∧ r = (b, ii (dg m (i : Int)).1 b ((dg m (i : Int)).2.2.2.2.1.drop k) z, (i : Int), m.1, m.2.1, m.2.2.1, m.2.2.2.1, m.2.2.2.2.1, m.2.2.2.2.2.1, m.2.2.2.2.2.2, v.1, v.2.1, v.2.2.1, v.2.2.2.1, v.2.2.2.2)) (fun x r ⟨k, _, _, h1, h2, _⟩ => by omega) (fun f x F hF r => ?_) n _ _ ⟨0, z, rfl, am _, by omega, rfl⟩
 rintro ⟨k, z, rfl, h1, h2, rfl⟩
 show xE n F b z (i : Int) (k : Int) m.1 m.2.1 m.2.2.1 m.2.2.2.1 m.2.2.2.2.1 m.2.2.2.2.2.1 m.2.2.2.2.2.2 v.1 v.2.1 v.2.2.1 v.2.2.2.1 v.2.2.2.2 = _
 unfold xE
 rw [if_pos (dh hii)]
 show (if decide ((k : Int) < ((dg m (i : Int)).2.2.2.2.1.length : Int)) = true then _ else _) = _
 rcases ak k (dg m (i : Int)).2.2.2.2.1.length with hlt | hge
 ·rw [if_pos (af (by omega)), if_pos (dh hii), dM (d := (0 : Int)) hlt]
  show (if (decide (0 ≤ (k : Int)) && decide ((k : Int) < ((dg m (i : Int)).2.2.2.2.1.length : Int))) = true then (if ((dg m (i : Int)).2.2.2.2.1.getD (k : Int).toNat 0 == b) = true then _ else _) else _) = _
  rw [if_pos (dh hlt), ai]
  by_cases e : (dg m (i : Int)).2.2.2.2.1.getD k 0 = b
  ·rw [if_pos (ag.2 e), if_pos (dh hii), dk (by omega)]
   refine hF _ _ ⟨k + 1, _, rfl, by omega, by omega, ?_⟩
   rw [show ii (dg m (i : Int)).1 b ((dg m (i : Int)).2.2.2.2.1.getD k 0 :: (dg m (i : Int)).2.2.2.2.1.drop (k + 1)) z = ii (dg m (i : Int)).1 b ((dg m (i : Int)).2.2.2.2.1.drop (k + 1)) (if (dg m (i : Int)).2.2.2.2.1.getD k 0 = b then hi (dg m (i : Int)).1 z else z) from rfl, if_pos e]
   rfl
  ·rw [if_neg (fun q => e (ag.1 q)), dk (by omega)]
   refine hF _ _ ⟨k + 1, _, rfl, by omega, by omega, ?_⟩
   rw [show ii (dg m (i : Int)).1 b ((dg m (i : Int)).2.2.2.2.1.getD k 0 :: (dg m (i : Int)).2.2.2.2.1.drop (k + 1)) z = ii (dg m (i : Int)).1 b ((dg m (i : Int)).2.2.2.2.1.drop (k + 1)) (if (dg m (i : Int)).2.2.2.2.1.getD k 0 = b then hi (dg m (i : Int)).1 z else z) from rfl, if_neg e]
 ·have : k = (dg m (i : Int)).2.2.2.2.1.length := by omega
  subst this
  rw [if_neg (by simp), aN]
  rfl
theorem NW (n : Nat) (hn : n = 30000) {m : Img} (v : Vd) (b : Int) (hT : m.tasks.length ≤ 80) (h8 : ∀ i, i < m.tasks.length → (dg m (i : Int)).2.2.2.2.1.length ≤ 80) : tK n (b, 0, 0, m.1, m.2.1, m.2.2.1, m.2.2.2.1, m.2.2.2.2.1, m.2.2.2.2.2.1, m.2.2.2.2.2.2, v.1, v.2.1, v.2.2.1, v.2.2.2.1, v.2.2.2.2) = some (b, jR (dZ m) b, m.1, m.2.1, m.2.2.1, m.2.2.2.1, m.2.2.2.2.1, m.2.2.2.2.2.1, m.2.2.2.2.2.2, v.1, v.2.1, v.2.2.1, v.2.2.2.1, v.2.2.2.2) := by
 unfold tK
 refine d5 (S := fun F => (ep (dr (C_ q_))) (xF n F)) (fun f x r => ∃ (i : Nat) (z : Int), x = (b, z, (i : Int), m.1, m.2.1, m.2.2.1, m.2.2.2.1, m.2.2.2.2.1, m.2.2.2.2.2.1, m.2.2.2.2.2.2, v.1, v.2.1, v.2.2.1, v.2.2.2.1, v.2.2.2.2) ∧ i ≤ m.tasks.length ∧ m.tasks.length < f + i ∧ r = (b, k0 b ((dZ m).drop i) z, m.1, m.2.1, m.2.2.1, m.2.2.2.1, m.2.2.2.2.1, m.2.2.2.2.2.1, m.2.2.2.2.2.2, v.1, v.2.1, v.2.2.1, v.2.2.2.1, v.2.2.2.2)) (fun x r ⟨i, _, _, h1, h2, _⟩ => by omega) (fun f x F hF r => ?_) n _ _ ⟨0, 0, rfl, am _, by omega, rfl⟩
 rintro ⟨i, z, rfl, h1, h2, rfl⟩
 show xF n F b z (i : Int) m.1 m.2.1 m.2.2.1 m.2.2.2.1 m.2.2.2.2.1 m.2.2.2.2.2.1 m.2.2.2.2.2.2 v.1 v.2.1 v.2.2.1 v.2.2.2.1 v.2.2.2.2 = _
 unfold xF
 rcases ak i m.tasks.length with hlt | hge
 ·rw [if_pos (af (show (i : Int) < (m.tasks.length : Int) by omega)), R5 n hn v b z hlt (h8 i hlt), ae]
  dsimp only
  rw [dk (by omega), R4 hlt]
  exact hF _ _ ⟨i + 1, _, rfl, by omega, by omega, rfl⟩
 ·have : i = m.tasks.length := by omega
  subst this
  rw [if_neg (by simp), b7 (by rw [gf]; exact aq _)]
  rfl
theorem NX (n : Nat) (hn : n = 30000) {m : Img} (v : Vd) (hz : (ew 30000 m).2 = 0) (hv : v.2.2.2.2 = d8 (m.blocks.length : Int) (dZ m)) : p5 n (0, m.1, m.2.1, m.2.2.1, m.2.2.2.1, m.2.2.2.2.1, m.2.2.2.2.2.1, m.2.2.2.2.2.2, v.1, v.2.1, v.2.2.1, v.2.2.2.1, v.2.2.2.2) = some (.inr ((), ((m.1, m.2.1, m.2.2.1, m.2.2.2.1, m.2.2.2.2.1, m.2.2.2.2.2.1, m.2.2.2.2.2.2, ()), (v.1, v.2.1, v.2.2.1, v.2.2.2.1, v.2.2.2.2, ()), ()))) := by
 have hR := (gb hz).1
 have hB := (yD hz).bl
 have hT : m.tasks.length ≤ 80 := by have := hR.1.2.2.2.2.2.2; omega
 have hcl : v.2.2.2.2.length = m.blocks.length := by rw [hv, tV]; omega
 have h8 : ∀ i, i < m.tasks.length → (dg m (i : Int)).2.2.2.2.1.length ≤ 80 := fun i hi => by
  have hu := ((yD hz).get (i := i) (by rw [gf]; exact hi)).small hB.2
  rw [xW m hi] at hu
  exact aK hu (by decide)
 unfold p5
 refine d5 (S := fun F => (ep (di (C_ q_))) (xG n F)) (fun f x r => ∃ (b : Nat), x = ((b : Int), m.1, m.2.1, m.2.2.1, m.2.2.2.1, m.2.2.2.2.1, m.2.2.2.2.2.1, m.2.2.2.2.2.2, v.1, v.2.1, v.2.2.1, v.2.2.2.1, v.2.2.2.2) ∧ b ≤ m.blocks.length ∧ m.blocks.length < f + b ∧ r = .inr ((), ((m.1, m.2.1, m.2.2.1, m.2.2.2.1, m.2.2.2.2.1, m.2.2.2.2.2.1, m.2.2.2.2.2.2, ()), (v.1, v.2.1, v.2.2.1, v.2.2.2.1, v.2.2.2.2, ()), ()))) (fun x r ⟨i, _, h1, h2, _⟩ => by omega) (fun f x F hF r => ?_) n _ _ ⟨0, rfl, am _, by omega, rfl⟩
 rintro ⟨b, rfl, h1, h2, rfl⟩
 show xG n F (b : Int) m.1 m.2.1 m.2.2.1 m.2.2.2.1 m.2.2.2.2.1 m.2.2.2.2.2.1 m.2.2.2.2.2.2 v.1 v.2.1 v.2.2.1 v.2.2.2.1 v.2.2.2.2 = _
 unfold xG
 rcases ak b m.blocks.length with hlt | hge
 ·have hc : v.2.2.2.2.getD b 0 = jR (dZ m) (b : Int) := by
   have := Gp (yD hz) (k := (b : Int)) (by omega) (by omega)
   rw [ai] at this
   rw [hv]; exact this
  rw [if_pos (af (show (b : Int) < (m.blocks.length : Int) by omega)), NW n hn v (b : Int) hT h8, ae]
  dsimp only
  rw [if_pos (dh (by omega)), ai, hc, if_neg (fun k => aj.1 k rfl), if_neg (fun k => by have := aC k; omega)]
  rw [show jb n 1 (wrap .i64 (1 * 2 ^ (min b 64))) v.2.2.2.2 = some (hi (v.2.2.2.2.getD b 0) 1) from NV n (by omega) (by omega) 1 b v.2.2.2.2 (by omega) (by omega), ae, hc, if_neg (fun k => aj.1 k (by unfold hi; split <;> split <;> omega)), dk (by omega)]
  exact hF _ _ ⟨b + 1, rfl, by omega, by omega, rfl⟩
 ·have : b = m.blocks.length := by omega
  subst this
  rw [if_neg (by simp)]
theorem Vo (n : Nat) (hn : n = 30000) {m : Img} (v : Vd) {i : Nat} (hi : i < m.tasks.length) (hT : m.tasks.length ≤ 80) : tL n ((i : Int), true, 0, m.1, m.2.1, m.2.2.1, m.2.2.2.1, m.2.2.2.2.1, m.2.2.2.2.2.1, m.2.2.2.2.2.2, v.1, v.2.1, v.2.2.1, v.2.2.2.1, v.2.2.2.2) = some ((i : Int), xY (dg m (i : Int)).1 m.tasks true, m.1, m.2.1, m.2.2.1, m.2.2.2.1, m.2.2.2.2.1, m.2.2.2.2.2.1, m.2.2.2.2.2.2, v.1, v.2.1, v.2.2.1, v.2.2.2.1, v.2.2.2.2) := by
 unfold tL
 refine d5 (S := fun F => (ep (dr (C_ q_))) (xH n F)) (fun f x r => ∃ (k : Nat) (c : Bool), x = ((i : Int), c, (k : Int), m.1, m.2.1, m.2.2.1, m.2.2.2.1, m.2.2.2.2.1, m.2.2.2.2.2.1, m.2.2.2.2.2.2, v.1, v.2.1, v.2.2.1, v.2.2.2.1, v.2.2.2.2) ∧ k ≤ m.tasks.length ∧ m.tasks.length < f + k ∧ r = ((i : Int), xY (dg m (i : Int)).1 (m.tasks.drop k) c, m.1, m.2.1, m.2.2.1, m.2.2.2.1, m.2.2.2.2.1, m.2.2.2.2.2.1, m.2.2.2.2.2.2, v.1, v.2.1, v.2.2.1, v.2.2.2.1, v.2.2.2.2)) (fun x r ⟨k, _, _, h1, h2, _⟩ => by omega) (fun f x F hF r => ?_) n _ _ ⟨0, true, rfl, am _, by omega, rfl⟩
 rintro ⟨k, c, rfl, h1, h2, rfl⟩
 show xH n F (i : Int) c (k : Int) m.1 m.2.1 m.2.2.1 m.2.2.2.1 m.2.2.2.2.1 m.2.2.2.2.2.1 m.2.2.2.2.2.2 v.1 v.2.1 v.2.2.1 v.2.2.2.1 v.2.2.2.2 = _
 unfold xH
 rcases ak k m.tasks.length with hlt | hge
 ·have e : xY (dg m (i : Int)).1 (m.tasks.drop k) c = xY (dg m (i : Int)).1 (m.tasks.drop (k + 1)) (c && decide ((dg m (k : Int)).1 ≥ (dg m (i : Int)).1)) := by
   rw [dM (d := ((0 : Int), (0 : Int), (0 : Int), (0 : Int), ([] : List Int), ([] : List Int), ([] : List da))) hlt]
   rfl
  rw [if_pos (af (show (k : Int) < (m.tasks.length : Int) by omega)), e]
  cases c with
  | true =>
   rw [if_pos rfl, if_pos (dh hlt), if_pos (dh hi), dk (by omega), aS]
   exact hF _ _ ⟨k + 1, _, rfl, by omega, by omega, rfl⟩
  | false =>
   rw [if_neg (by decide), dk (by omega), bG]
   exact hF _ _ ⟨k + 1, _, rfl, by omega, by omega, rfl⟩
 ·have : k = m.tasks.length := by omega
  subst this
  rw [if_neg (by simp), aN]
  rfl
theorem R6 (n : Nat) (hn : n = 30000) {m : Img} (v : Vd) (hz : (ew 30000 m).2 = 0) (hv : v.2.2.1 = e9 m) : p6 n (0, m.1, m.2.1, m.2.2.1, m.2.2.2.1, m.2.2.2.2.1, m.2.2.2.2.2.1, m.2.2.2.2.2.2, v.1, v.2.1, v.2.2.1, v.2.2.2.1, v.2.2.2.2) = some (.inr ((), ((m.1, m.2.1, m.2.2.1, m.2.2.2.1, m.2.2.2.2.1, m.2.2.2.2.2.1, m.2.2.2.2.2.2, ()), (v.1, v.2.1, v.2.2.1, v.2.2.2.1, v.2.2.2.2, ()), ()))) := by
 have hR := (gb hz).1
 have hT : m.tasks.length ≤ 80 := by have := hR.1.2.2.2.2.2.2; omega
 have hrl : v.2.2.1.length = m.tasks.length := by rw [hv, iG]
 unfold p6
 refine d5 (S := fun F => (ep (di (C_ q_))) (xI n F)) (fun f x r => ∃ (i : Nat), x = ((i : Int), m.1, m.2.1, m.2.2.1, m.2.2.2.1, m.2.2.2.2.1, m.2.2.2.2.2.1, m.2.2.2.2.2.2, v.1, v.2.1, v.2.2.1, v.2.2.2.1, v.2.2.2.2) ∧ i ≤ m.tasks.length ∧ m.tasks.length < f + i ∧ r = .inr ((), ((m.1, m.2.1, m.2.2.1, m.2.2.2.1, m.2.2.2.2.1, m.2.2.2.2.2.1, m.2.2.2.2.2.2, ()), (v.1, v.2.1, v.2.2.1, v.2.2.2.1, v.2.2.2.2, ()), ()))) (fun x r ⟨i, _, h1, h2, _⟩ => by omega) (fun f x F hF r => ?_) n _ _ ⟨0, rfl, am _, by omega, rfl⟩
 rintro ⟨i, rfl, h1, h2, rfl⟩
 show xI n F (i : Int) m.1 m.2.1 m.2.2.1 m.2.2.2.1 m.2.2.2.2.1 m.2.2.2.2.2.1 m.2.2.2.2.2.2 v.1 v.2.1 v.2.2.1 v.2.2.2.1 v.2.2.2.2 = _
 unfold xI
 rcases ak i m.tasks.length with hlt | hge
 ·have hg : v.2.2.1.getD i dC = rz m i := by rw [hv]; exact xX m hlt
  have hw := CU hz hlt
  have eB : (rz m i).2.1 = (e8 (dZ m)).getD i 0 := rfl
  have eP : (rz m i).2.2.2.2.2 = (dg m (i : Int)).1 := rfl
  have tail : (if (decide (0 ≤ (i : Int)) && decide ((i : Int) < (v.2.2.1.length : Int))) = true then (if (decide (0 ≤ (i : Int)) && decide ((i : Int) < (m.2.2.2.2.2.2.length : Int))) = true then (if ((v.2.2.1.getD (i : Int).toNat dC).2.2.2.2.2 != (m.2.2.2.2.2.2.getD (i : Int).toNat ((0 : Int), ((0 : Int), ((0 : Int), ((0 : Int), (([] : List Int), (([] : List Int), ([] : List da)))))))).1) = true then (some (.inl ((false, ()), ((m.1, m.2.1, m.2.2.1, m.2.2.2.1, m.2.2.2.2.1, m.2.2.2.2.2.1, m.2.2.2.2.2.2, ()), (v.1, v.2.1, v.2.2.1, v.2.2.2.1, v.2.2.2.2, ()), ())))) else (if (decide (0 ≤ (i : Int)) && decide ((i : Int) < (v.2.2.1.length : Int))) = true then (if decide ((v.2.2.1.getD (i : Int).toNat dC).2.1 < 0) = true then (some (.inl ((false, ()), ((m.1, m.2.1, m.2.2.1, m.2.2.2.1, m.2.2.2.2.1, m.2.2.2.2.2.1, m.2.2.2.2.2.2, ()), (v.1, v.2.1, v.2.2.1, v.2.2.2.1, v.2.2.2.2, ()), ())))) else (F ((wrap .i64 ((i : Int) + 1)), m.1, m.2.1, m.2.2.1, m.2.2.2.1, m.2.2.2.2.1, m.2.2.2.2.2.1, m.2.2.2.2.2.2, v.1, v.2.1, v.2.2.1, v.2.2.2.1, v.2.2.2.2))) else none)) else none) else none) = (some (.inr ((), ((m.1, m.2.1, m.2.2.1, m.2.2.2.1, m.2.2.2.2.1, m.2.2.2.2.2.1, m.2.2.2.2.2.2, ()), (v.1, v.2.1, v.2.2.1, v.2.2.2.1, v.2.2.2.2, ()), ()))) : Option ((((Bool × Unit) × ((Int × Int × Int × Int × (List Int) × (List (List Int)) × (List Tsk) × Unit) × (Int × Int × (List Row) × (List Int) × (List Int) × Unit) × Unit)) ⊕ (Unit × ((Int × Int × Int × Int × (List Int) × (List (List Int)) × (List Tsk) × Unit) × (Int × Int × (List Row) × (List Int) × (List Int) × Unit) × Unit))))) := by
   rw [if_pos (dh (by omega)), if_pos (dh hlt), if_pos (dh (by omega)), ai, hg, eP, eB, if_neg (show ¬ ((dg m (i : Int)).1 != (m.2.2.2.2.2.2.getD i ((0 : Int), ((0 : Int), ((0 : Int), ((0 : Int), (([] : List Int), (([] : List Int), ([] : List da)))))))).1) = true from fun k => aj.1 k rfl), if_neg (fun k => by have := aC k; omega), dk (by omega)]
   exact hF _ _ ⟨i + 1, rfl, by omega, by omega, rfl⟩
  rw [if_pos (af (show (i : Int) < (m.tasks.length : Int) by omega)), Vo n hn v hlt hT, ae]
  dsimp only
  cases hl : xY (dg m (i : Int)).1 m.tasks true with
  | true =>
   rw [if_pos rfl, if_pos (dh (by omega)), if_neg (fun k => aj.1 k (by show (v.2.2.1.getD (i : Int).toNat dC).2.1 = 0; rw [ai, hg, eB]; exact Vn hlt hl))]
   exact tail
  | false =>
   rw [if_neg (by decide)]
   exact tail
 ·have : i = m.tasks.length := by omega
  subst this
  rw [if_neg (by simp)]
theorem mV (a0 : (Int × (Int × (Int × (Int × ((List Int) × ((List (List Int)) × (List (Int × (Int × (Int × (Int × ((List Int) × ((List Int) × (List (Int × (Int × Int))))))))))))))))) (ok0 : Sh.Ok (.pair (.int .i64) (.pair (.int .i64) (.pair (.int .i64) (.pair (.int .i64) (.pair (.sl (.int .i64)) (.pair (.sl (.sl (.int .i64))) (.sl (.pair (.int .i64) (.pair (.int .i64) (.pair (.int .i64) (.pair (.int .i64) (.pair (.sl (.int .i64)) (.pair (.sl (.int .i64)) (.sl (.pair (.int .i64) (.pair (.int .i64) (.int .i64))))))))))))))))) a0) (sm0 : Sh.Sm (.pair (.int .i64) (.pair (.int .i64) (.pair (.int .i64) (.pair (.int .i64) (.pair (.sl (.int .i64)) (.pair (.sl (.sl (.int .i64))) (.sl (.pair (.int .i64) (.pair (.int .i64) (.pair (.int .i64) (.pair (.int .i64) (.pair (.sl (.int .i64)) (.pair (.sl (.int .i64)) (.sl (.pair (.int .i64) (.pair (.int .i64) (.int .i64))))))))))))))))) a0) : ∃ n, Nz n a0 = some true := by
 refine ⟨30000, ?_⟩
 unfold Nz
 rcases NQ 30000 (by decide) (by decide) sm0 with h | ⟨h, hL, hD⟩
 ·rw [show pF 30000 (a0.1, a0.2.1, a0.2.2.1, a0.2.2.2.1, a0.2.2.2.2.1, a0.2.2.2.2.2.1, a0.2.2.2.2.2.2) = some 0 from h, ae, if_pos (by decide), DX]
  rfl
 ·rw [show pF 30000 (a0.1, a0.2.1, a0.2.2.1, a0.2.2.2.1, a0.2.2.2.2.1, a0.2.2.2.2.2.1, a0.2.2.2.2.2.2) = some 1 from h, ae, if_neg (by decide)]
  rw [show sf 30000 (a0.1, a0.2.1, a0.2.2.1, a0.2.2.2.1, a0.2.2.2.2.1, a0.2.2.2.2.2.1, a0.2.2.2.2.2.2) = _ from Vk 30000 rfl a0 hD, ae]
  rcases Kp a0 hD with ⟨h1, h2⟩ | h3
  ·rw [h2]
   show (if ((([] : List Row).length : Int) == 0) = true then (if ((ew 30000 a0).2 != 0) = true then _ else _) else _) = _
   rw [if_pos (by decide), if_pos (aj.2 h1), DX]
   rfl
  ·have hz : (ew 30000 a0).2 = 0 := by
    rcases h3 with ⟨h1, _⟩ | ⟨h1, _⟩
    ·exact h1
    ·exact h1
   have hr : (jd a0).2.2.1 = e9 a0 := by
    rcases h3 with ⟨h1, j, _, _, h2⟩ | ⟨h1, _, h2⟩ <;> rw [h2]
   have hc : (jd a0).2.2.2.2 = d8 (a0.2.2.2.2.2.1.length : Int) (dZ a0) := by
    rcases h3 with ⟨h1, j, _, _, h2⟩ | ⟨h1, _, h2⟩ <;> rw [h2]
   have hN := (gb hz).1.1.2.2.2.2.2
   have hN2 : a0.2.2.2.2.2.1.length ≤ 8 := hN.1
   have hN3 : 1 ≤ a0.2.2.2.2.2.2.length := hN.2.1
   have l1 : (jd a0).2.2.1.length = a0.2.2.2.2.2.2.length := by rw [hr]; exact iG a0
   have l2 : (jd a0).2.2.2.2.length = a0.2.2.2.2.2.1.length := by rw [hc, tV]; omega
   rw [if_neg (fun k => by have := ag.1 k; omega), if_neg (fun k => aj.1 k (by rw [l1])), if_neg (fun k => aj.1 k (by rw [l2]))]
   rw [show p5 30000 _ = _ from NX 30000 rfl (m := a0) (jd a0) hz hc, ae, bY]
   dsimp only
   rw [show p6 30000 _ = _ from R6 30000 rfl (m := a0) (jd a0) hz hr, ae, bY, DX]
   rfl
end Go.Proofs.Dk
