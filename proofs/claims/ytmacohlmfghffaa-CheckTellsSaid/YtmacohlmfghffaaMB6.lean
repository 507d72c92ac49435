/- A part of the proofs: Plain: locks are as the document says. -/
import Derived.Test.YtmacohlmfghffaaMB5
/- Plain: locks are as the document says. -/
namespace Go.Proofs.Dk
open Go
set_option maxRecDepth 100000
set_option linter.unusedVariables false
set_option linter.unusedSimpArgs false
def okQ (l : List Ins) (m : List Int) (i : Nat) : Bool := !badI l m i
noncomputable def locksI (l : List Ins) : Int := if wholeI l ≠ 0 then wholeI l else if allF (okQ l (scanI l).1) l.length 0 = true then 0 else 11
theorem whole_scan {l : List Ins} (h : wholeI l = 0) : (scanI l).2.2 = 0 := by
  unfold wholeI at h
  split at h
  · rename_i h1
    exact absurd h h1
  · rename_i h1
    exact Classical.not_not.1 h1
theorem locks_loop (n : Nat) {l : List Ins} {m h hs : List Int} (hN : Nest l m h) (hT : HeldTo l m hs l.length) (hn : l.length < n) : ∀ (f i : Nat) {o : List Int}, i ≤ l.length → l.length < f + i → o.length ≤ i →
    it (fun F (x : (List (Int × (Int × Int))) × (List Int) × (List Int) × (List Int) × Bool × (List (Int × (Int × Int))) × Int × Int) => nest_Locks.b1 n F x.1 x.2.1 x.2.2.1 x.2.2.2.1 x.2.2.2.2.1 x.2.2.2.2.2.1 x.2.2.2.2.2.2.1 x.2.2.2.2.2.2.2) f (l, hs, h, o, freedB l i, l, (l.length : Int), (i : Int)) = some (if allF (okQ l m) (l.length - i) i = true then .inr ((o ++ lockF l (l.length - i) i, ()), ()) else .inl (([], 11, ()), ()))
  | 0, i, o, hi, hf, ho => by omega
  | f + 1, i, o, hi, hf, ho => by
    have ih := fun {o : List Int} => locks_loop n hN hT hn f (i + 1) (o := o)
    obtain ⟨r1, r2, r3⟩ := rowI_len hN.row
    show nest_Locks.b1 n (it _ f) l hs h o (freedB l i) l (l.length : Int) (i : Int) = some (if allF (okQ l m) (l.length - i) i = true then .inr ((o ++ lockF l (l.length - i) i, ()), ()) else .inl (([], 11, ()), ()))
    generalize it (fun F (x : (List (Int × (Int × Int))) × (List Int) × (List Int) × (List Int) × Bool × (List (Int × (Int × Int))) × Int × Int) => nest_Locks.b1 n F x.1 x.2.1 x.2.2.1 x.2.2.2.1 x.2.2.2.2.1 x.2.2.2.2.2.1 x.2.2.2.2.2.2.1 x.2.2.2.2.2.2.2) f = F at ih ⊢
    unfold nest_Locks.b1
    rcases Nat.lt_or_ge i l.length with hlt | hge
    · have e1 : decide ((i : Int) < (l.length : Int)) = true := decide_eq_true (by omega)
      obtain ⟨o1, ⟨o2, o4⟩, o3⟩ := locks_j0 n hN hT hlt ho hn
      rw [if_pos e1, if_pos (in_ix hlt), Int.toNat_natCast, o3, Option.bind_some, show l.length - i = (l.length - (i + 1)) + 1 by omega]
      rw [show allF (okQ l m) (l.length - (i + 1) + 1) i = (!badI l m i && allF (okQ l m) (l.length - (i + 1)) (i + 1)) from rfl]
      simp only [next_ix (show i < 1000000 by omega)]
      rcases Bool.eq_false_or_eq_true (badI l m i) with hb | hb
      · rw [hb]
        simp
      · rw [hb]
        have ho' := ih (o := o1) (by omega) (by omega) o2
        rw [o4, List.append_assoc] at ho'
        subst o4
        rw [show lockF l (l.length - (i + 1) + 1) i = lock1 l i ++ lockF l (l.length - (i + 1)) (i + 1) from rfl]
        simpa using ho'
    · have : i = l.length := by omega
      subst this
      have e1 : ¬ decide ((l.length : Int) < (l.length : Int)) = true := by simp
      rw [if_neg e1]
      simp [allF, lockF]
noncomputable def lockL (l : List Ins) : List Int := if locksI l = 0 then lockF l l.length 0 else []
theorem locks_is2 (n : Nat) (l : List Ins) (hl : l.length < n) (hn : n < 1000000) : nest_Locks.f n l = some (lockL l, locksI l) := by
  unfold nest_Locks.f lockL locksI
  rw [whole_is n l hl hn, Option.bind_some]
  by_cases hw : wholeI l = 0
  · have he := whole_scan hw
    have hN := scanI_nest he
    obtain ⟨hs, h1, h2⟩ := held_is n he hl hn
    have hm : nest_Home.f n l = some ((scanI l).2.1, (scanI l).2.2) := by
      unfold nest_Home.f
      rw [scan_is n l hl hn]
      rfl
    rw [if_neg (fun h => (bne_iff_ne.1 h) hw), h1, Option.bind_some, hm, Option.bind_some, if_neg (show ¬ (wholeI l ≠ 0) from fun h => h hw)]
    have ho' := locks_loop n hN h2 hl n 0 (o := []) (Nat.zero_le _) (by omega) (by simp)
    have z : ((0 : Nat) : Int) = 0 := rfl
    rw [z] at ho'
    unfold nest_Locks.b1.l
    have hf : freedB l 0 = false := rfl
    rw [hf] at ho'
    simp only
    rw [ho', Option.bind_some, Nat.sub_zero]
    by_cases ha : allF (okQ l (scanI l).1) l.length 0 = true
    · rw [if_pos ha, if_pos ha, if_pos rfl]
      rfl
    · rw [if_neg ha, if_neg ha, if_neg (by decide)]
      rfl
  · rw [if_pos (by simp only [bne_iff_ne, ne_eq]; exact hw), if_pos hw, if_neg hw]
theorem locks_is (n : Nat) (l : List Ins) (hl : l.length < n) (hn : n < 1000000) : ∃ o, nest_Locks.f n l = some (o, locksI l) := ⟨_, locks_is2 n l hl hn⟩
theorem within_is (n : Nat) {l : List Ins} {m : List Int} (hm : m.length = l.length) {k i : Nat} (hk : k < l.length) : camshaftref06_within.f n m (k : Int) (i : Int) = some (decide (k < i) && decide (m.getD k 0 ≥ (i : Int))) := by
  unfold camshaftref06_within.f
  by_cases h : k < i
  · rw [if_pos (decide_eq_true (by omega)), if_pos (by rw [hm]; exact in_ix hk), Int.toNat_natCast, decide_eq_true h, Bool.true_and]
  · rw [if_neg (by simp only [decide_eq_true_eq]; omega), decide_eq_false h, Bool.false_and]
def badK (l : List Ins) (m : List Int) (i k : Nat) : Bool := opAt l k == 24 || (enc l m k i && (opAt l k == 21 || (opAt l k == 23 && decide (argA l k ≥ argA l i))))
def undK (l : List Ins) (m : List Int) (i k : Nat) : Bool := enc l m k i && (opAt l k == 23 && (argA l k == argA l i))
theorem refbad_j0 (n : Nat) {l : List Ins} {m : List Int} (hm : m.length = l.length) {k i : Nat} (hk : k < l.length) (hki : k < i) (u : Bool) (b : Int) :
    camshaftref06_bad.j0 n l m (i : Int) u (k : Int) (opAt l i) (argA l i) b = some (if (opAt l i == 23 && badK l m i k) = true then .inl ((true, ()), ((opAt l i, argA l i, b, ()), ())) else .inr ((l, m, (i : Int), u, (k : Int), ()), ((opAt l i, argA l i, b, ()), ()))) := by
  unfold camshaftref06_bad.j0
  by_cases h23 : opAt l i = 23
  · have c : (opAt l i == 23) = true := by simp only [beq_iff_eq]; exact h23
    rw [if_pos c, if_pos (in_ix hk), Int.toNat_natCast, c, Bool.true_and]
    unfold badK
    by_cases h24 : opAt l k = 24
    · have c2 : (opAt l k == 24) = true := by simp only [beq_iff_eq]; exact h24
      rw [if_pos c2, c2, Bool.true_or, if_pos rfl]
    · have c2 : (opAt l k == 24) = false := by rw [beq_eq_false_iff_ne]; exact h24
      rw [if_neg (by rw [c2]; simp), within_is n hm hk, Option.bind_some, c2, Bool.false_or, if_pos (in_ix hk), if_pos (in_ix hk), if_pos (in_ix hk)]
      have en : enc l m k i = ((opAt l k == 21 || opAt l k == 23) && (decide (k < i) && decide (m.getD k 0 ≥ (i : Int)))) := by
        unfold enc isOpen
        rw [decide_eq_true hki, Bool.true_and, Bool.true_and]
      rw [en]
      cases hw : (decide (k < i) && decide (m.getD k 0 ≥ (i : Int)))
      · simp
      · rw [if_pos rfl]
        by_cases h21 : opAt l k = 21
        · have c3 : (opAt l k == 21) = true := by simp only [beq_iff_eq]; exact h21
          rw [if_pos c3, c3]
          rfl
        · have c3 : (opAt l k == 21) = false := by rw [beq_eq_false_iff_ne]; exact h21
          rw [if_neg (by rw [c3]; simp), c3]
          by_cases h23' : opAt l k = 23
          · have c4 : (opAt l k == 23) = true := by simp only [beq_iff_eq]; exact h23'
            rw [if_pos c4, c4]
            by_cases hA : argA l k ≥ argA l i
            · rw [if_pos (decide_eq_true hA), decide_eq_true hA]
              rfl
            · rw [if_neg (by simp only [decide_eq_true_eq]; exact hA), decide_eq_false hA]
              rfl
          · have c4 : (opAt l k == 23) = false := by rw [beq_eq_false_iff_ne]; exact h23'
            rw [if_neg (by rw [c4]; simp), c4]
            rfl
  · have c : (opAt l i == 23) = false := by rw [beq_eq_false_iff_ne]; exact h23
    rw [if_neg (by rw [c]; simp), c]
    rfl
end Go.Proofs.Dk

/- Plain: locks are as the document says, on. -/
namespace Go.Proofs.Dk
open Go
set_option maxRecDepth 100000
set_option linter.unusedVariables false
set_option linter.unusedSimpArgs false
def fromB (Q : Nat → Bool) : Nat → Nat → Bool
  | 0, _ => false
  | r + 1, k => Q k || fromB Q r (k + 1)
theorem fromB_iff {Q : Nat → Bool} : ∀ {r i : Nat}, fromB Q r i = true ↔ ∃ k, i ≤ k ∧ k < i + r ∧ Q k = true
  | 0, i => by
    simp only [fromB, Bool.false_eq_true, false_iff]
    rintro ⟨k, h1, h2, _⟩
    omega
  | r + 1, i => by
    simp only [fromB, Bool.or_eq_true, fromB_iff (r := r)]
    constructor
    · rintro (h | ⟨k, h1, h2, h3⟩)
      · exact ⟨i, Nat.le_refl _, by omega, h⟩
      · exact ⟨k, by omega, by omega, h3⟩
    · rintro ⟨k, h1, h2, h3⟩
      by_cases e : k = i
      · subst e; exact .inl h3
      · exact .inr ⟨k, by omega, by omega, h3⟩
theorem refbad_loop (n : Nat) {l : List Ins} {m : List Int} (hm : m.length = l.length) (hl : l.length < 1000000) {i : Nat} (hi : i < l.length) (b : Int) : ∀ (f k : Nat) (u : Bool), k ≤ i → i < f + k →
    it (fun F (x : (List (Int × (Int × Int))) × (List Int) × Int × Bool × Int × Int × Int × Int) => camshaftref06_bad.b1 n F x.1 x.2.1 x.2.2.1 x.2.2.2.1 x.2.2.2.2.1 x.2.2.2.2.2.1 x.2.2.2.2.2.2.1 x.2.2.2.2.2.2.2) f (l, m, (i : Int), u, (k : Int), opAt l i, argA l i, b) = some (if (opAt l i == 23 && fromB (badK l m i) (i - k) k) = true then .inl ((true, ()), ((opAt l i, argA l i, b, ()), ())) else .inr ((u || fromB (undK l m i) (i - k) k, ()), ((opAt l i, argA l i, b, ()), ())))
  | 0, k, u, hk, hf => by omega
  | f + 1, k, u, hk, hf => by
    have ih := refbad_loop n hm hl hi b f (k + 1)
    show camshaftref06_bad.b1 n (it _ f) l m (i : Int) u (k : Int) (opAt l i) (argA l i) b = _
    generalize it (fun F (x : (List (Int × (Int × Int))) × (List Int) × Int × Bool × Int × Int × Int × Int) => camshaftref06_bad.b1 n F x.1 x.2.1 x.2.2.1 x.2.2.2.1 x.2.2.2.2.1 x.2.2.2.2.2.1 x.2.2.2.2.2.2.1 x.2.2.2.2.2.2.2) f = F at ih ⊢
    unfold camshaftref06_bad.b1
    rcases Nat.lt_or_ge k i with hlt | hge
    · rw [if_pos (decide_eq_true (by omega)), refbad_j0 n hm (by omega) hlt u b, Option.bind_some, show i - k = (i - (k + 1)) + 1 by omega]
      rw [show fromB (badK l m i) (i - (k + 1) + 1) k = (badK l m i k || fromB (badK l m i) (i - (k + 1)) (k + 1)) from rfl, show fromB (undK l m i) (i - (k + 1) + 1) k = (undK l m i k || fromB (undK l m i) (i - (k + 1)) (k + 1)) from rfl]
      rcases Bool.eq_false_or_eq_true (opAt l i == 23 && badK l m i k) with hb | hb
      · rw [hb, if_pos rfl, Sum.elim_inl]
        rw [Bool.and_eq_true] at hb
        rw [hb.1, hb.2, Bool.true_or, Bool.true_and, if_pos rfl]
      · rw [hb, if_neg (by simp), Sum.elim_inr]
        have hb2 : (opAt l i == 23 && (badK l m i k || fromB (badK l m i) (i - (k + 1)) (k + 1))) = (opAt l i == 23 && fromB (badK l m i) (i - (k + 1)) (k + 1)) := by
          cases h1 : (opAt l i == 23)
          · rfl
          · rw [h1, Bool.true_and] at hb
            rw [hb, Bool.false_or]
        rw [hb2]
        have go : ∀ u' : Bool, u' = (u || undK l m i k) → F (l, m, (i : Int), u', ((k + 1 : Nat) : Int), opAt l i, argA l i, b) = some (if (opAt l i == 23 && fromB (badK l m i) (i - (k + 1)) (k + 1)) = true then .inl ((true, ()), ((opAt l i, argA l i, b, ()), ())) else .inr ((u || (undK l m i k || fromB (undK l m i) (i - (k + 1)) (k + 1)), ()), ((opAt l i, argA l i, b, ()), ()))) := fun u' hu => by
          rw [ih u' (by omega) (by omega), hu, Bool.or_assoc]
        simp only [next_ix (show k < 1000000 by omega), Int.toNat_natCast]
        cases u
        · rw [if_neg (by simp), if_pos (in_ix (show k < l.length by omega))]
          have en : enc l m k i = ((opAt l k == 21 || opAt l k == 23) && (decide (k < i) && decide (m.getD k 0 ≥ (i : Int)))) := by
            unfold enc isOpen
            rw [decide_eq_true hlt, Bool.true_and, Bool.true_and]
          by_cases h23 : opAt l k = 23
          · have c4 : (opAt l k == 23) = true := by simp only [beq_iff_eq]; exact h23
            have c5 : (opAt l k == 21) = false := by rw [beq_eq_false_iff_ne]; omega
            rw [if_pos c4, if_pos (in_ix (show k < l.length by omega))]
            by_cases hA : argA l k = argA l i
            · rw [if_pos (by simp only [beq_iff_eq]; exact hA), within_is n hm (by omega), Option.bind_some]
              refine go _ ?_
              unfold undK
              have c6 : (argA l k == argA l i) = true := by simp only [beq_iff_eq]; exact hA
              rw [en, c4, c5, c6]
              simp
            · rw [if_neg (by simp only [beq_iff_eq]; exact hA)]
              refine go _ ?_
              unfold undK
              have c6 : (argA l k == argA l i) = false := by rw [beq_eq_false_iff_ne]; exact hA
              rw [c6]
              simp
          · have c4 : (opAt l k == 23) = false := by rw [beq_eq_false_iff_ne]; exact h23
            rw [if_neg (show ¬ (opAt l k == 23) = true by rw [c4]; simp)]
            refine go _ ?_
            unfold undK
            rw [c4]
            simp
        · rw [if_pos rfl]
          exact go _ (by simp)
    · have : k = i := by omega
      subst this
      rw [if_neg (by simp), Nat.sub_self]
      simp [fromB]
theorem refbad_is (n : Nat) {l : List Ins} {m : List Int} (hm : m.length = l.length) (hl : l.length < 1000000) {i : Nat} (hi : i < l.length) (hn : i < n) : camshaftref06_bad.f n l m (i : Int) = some (badI l m i) := by
  unfold camshaftref06_bad.f camshaftref06_bad.b1.l
  have h0 := refbad_loop n hm hl hi (l.getD i (0, 0, 0)).2.2 n 0 false (Nat.zero_le _) (by omega)
  have z : ((0 : Nat) : Int) = 0 := rfl
  rw [z] at h0
  rw [if_pos (in_ix hi), Int.toNat_natCast, h0, Option.bind_some, Nat.sub_zero, Bool.false_or]
  have hbad : fromB (badK l m i) i 0 = (freedB l i || overB l m i) := by
    rw [Bool.eq_iff_iff, fromB_iff, Bool.or_eq_true]
    unfold freedB overB
    rw [anyB_iff, anyB_iff]
    constructor
    · rintro ⟨k, _, h2, h3⟩
      unfold badK at h3
      rw [Bool.or_eq_true] at h3
      exact h3.imp (fun h => ⟨k, by omega, h⟩) (fun h => ⟨k, by omega, h⟩)
    · rintro (⟨k, h1, h2⟩ | ⟨k, h1, h2⟩)
      · exact ⟨k, Nat.zero_le _, by omega, by unfold badK; rw [h2]; rfl⟩
      · exact ⟨k, Nat.zero_le _, by omega, by unfold badK; rw [h2, Bool.or_true]⟩
  have hund : fromB (undK l m i) i 0 = underB l m i := by
    rw [Bool.eq_iff_iff, fromB_iff]
    unfold underB
    rw [anyB_iff]
    exact ⟨fun ⟨k, _, h2, h3⟩ => ⟨k, by omega, h3⟩, fun ⟨k, h1, h2⟩ => ⟨k, Nat.zero_le _, by omega, h2⟩⟩
  rw [hbad, hund]
  unfold badI
  by_cases h23 : opAt l i = 23
  · have c : (opAt l i == 23) = true := by simp only [beq_iff_eq]; exact h23
    rw [c, Bool.true_and, if_pos h23]
    cases hx : (freedB l i || overB l m i)
    · rw [if_neg (by simp), Sum.elim_inr]
      have c1 : ¬ (opAt l i == 17) = true := by simp only [beq_iff_eq]; omega
      have c2 : ¬ (opAt l i == 18) = true := by simp only [beq_iff_eq]; omega
      simp only
      rw [if_neg c1, if_neg c2]
    · rw [if_pos rfl, Sum.elim_inl]
  · have c : (opAt l i == 23) = false := by rw [beq_eq_false_iff_ne]; exact h23
    rw [c, Bool.false_and, if_neg (by simp), Sum.elim_inr, if_neg h23]
    simp only
    by_cases h17 : opAt l i = 17
    · rw [if_pos (by simp only [beq_iff_eq]; exact h17), if_pos (.inl h17)]
    · rw [if_neg (by simp only [beq_iff_eq]; exact h17)]
      by_cases h18 : opAt l i = 18
      · rw [if_pos (by simp only [beq_iff_eq]; exact h18), if_pos (.inr h18)]
      · rw [if_neg (by simp only [beq_iff_eq]; exact h18), if_neg (fun h => h.elim h17 h18)]
theorem reflocks_loop (n : Nat) {l : List Ins} {m : List Int} (hm : m.length = l.length) (hl : l.length < 1000000) (hn : l.length < n) : ∀ (f i : Nat) {o : List Int}, i ≤ l.length → l.length < f + i → o.length ≤ i →
    it (fun F (x : (List (Int × (Int × Int))) × (List Int) × (List Int) × Int) => camshaftref06_Locks.b0 n F x.1 x.2.1 x.2.2.1 x.2.2.2) f (l, m, o, (i : Int)) = some (if allF (okQ l m) (l.length - i) i = true then .inr ((o ++ lockF l (l.length - i) i, ()), ()) else .inl (([], 11, ()), ()))
  | 0, i, o, hi, hf, ho => by omega
  | f + 1, i, o, hi, hf, ho => by
    have ih := fun {o : List Int} => reflocks_loop n hm hl hn f (i + 1) (o := o)
    show camshaftref06_Locks.b0 n (it _ f) l m o (i : Int) = some (if allF (okQ l m) (l.length - i) i = true then .inr ((o ++ lockF l (l.length - i) i, ()), ()) else .inl (([], 11, ()), ()))
    generalize it (fun F (x : (List (Int × (Int × Int))) × (List Int) × (List Int) × Int) => camshaftref06_Locks.b0 n F x.1 x.2.1 x.2.2.1 x.2.2.2) f = F at ih ⊢
    unfold camshaftref06_Locks.b0
    rcases Nat.lt_or_ge i l.length with hlt | hge
    · rw [if_pos (decide_eq_true (by omega)), refbad_is n hm hl hlt (by omega), Option.bind_some, Int.toNat_natCast, next_ix (by omega), show l.length - i = (l.length - (i + 1)) + 1 by omega]
      rw [show allF (okQ l m) (l.length - (i + 1) + 1) i = (!badI l m i && allF (okQ l m) (l.length - (i + 1)) (i + 1)) from rfl]
      have hcap : (decide ((o.length + 1) * 8 ≤ 140737488355328) && decide (1 ≤ 8)) = true := by simp; omega
      rcases Bool.eq_false_or_eq_true (badI l m i) with hb | hb
      · rw [hb]
        simp
      · rw [hb, if_neg (by simp), if_pos (in_ix hlt), hcap, Bool.not_false, Bool.true_and]
        by_cases h23 : (l.getD i (0, 0, 0)).1 = 23
        · rw [if_pos (by simp only [beq_iff_eq]; exact h23), if_pos (in_ix hlt), if_pos rfl, show lockF l (l.length - (i + 1) + 1) i = [argA l i] ++ lockF l (l.length - (i + 1)) (i + 1) from by show lock1 l i ++ _ = _; rw [show lock1 l i = [argA l i] from if_pos h23], ← List.append_assoc]
          exact ih (by omega) (by omega) (by simp; omega)
        · rw [if_neg (by simp only [beq_iff_eq]; exact h23), show lockF l (l.length - (i + 1) + 1) i = lockF l (l.length - (i + 1)) (i + 1) from by show lock1 l i ++ _ = _; rw [show lock1 l i = [] from if_neg h23]; rfl]
          exact ih (by omega) (by omega) (by omega)
    · have : i = l.length := by omega
      subst this
      rw [if_neg (by simp)]
      simp [allF, lockF]
theorem ref_locks_is2 (n : Nat) (l : List Ins) (hi : InR l) (hl : l.length < n) (hn : n < 1000000) : camshaftref06_Locks.f n l = some (lockL l, locksI l) := by
  unfold camshaftref06_Locks.f lockL locksI
  rw [ref_whole_is n l hi hl hn, Option.bind_some]
  by_cases hw : wholeI l = 0
  · have he := whole_scan hw
    have hN := scanI_nest he
    rw [if_neg (fun h => (bne_iff_ne.1 h) hw), ref_match_is n l hi hl hn, Option.bind_some, if_neg (show ¬ (wholeI l ≠ 0) from fun h => h hw)]
    have ho' := reflocks_loop n hN.hm (by omega) hl n 0 (o := []) (Nat.zero_le _) (by omega) (by simp)
    have z : ((0 : Nat) : Int) = 0 := rfl
    rw [z] at ho'
    unfold camshaftref06_Locks.b0.l
    simp only
    rw [ho', Option.bind_some, Nat.sub_zero]
    by_cases ha : allF (okQ l (scanI l).1) l.length 0 = true
    · rw [if_pos ha, if_pos ha, if_pos rfl]
      rfl
    · rw [if_neg ha, if_neg ha, if_neg (by decide)]
      rfl
  · rw [if_pos (by simp only [bne_iff_ne, ne_eq]; exact hw), if_pos hw, if_neg hw]
theorem ref_locks_is (n : Nat) (l : List Ins) (hi : InR l) (hl : l.length < n) (hn : n < 1000000) : ∃ o, camshaftref06_Locks.f n l = some (o, locksI l) := ⟨_, ref_locks_is2 n l hi hl hn⟩
end Go.Proofs.Dk

/- Plain: what instructions take and give. -/
namespace Go.Proofs.Dk
open Go
set_option maxRecDepth 100000
set_option linter.unusedVariables false
set_option linter.unusedSimpArgs false
def fitQ (a b : ByteArray) (k : Nat) : Bool := bt b (k : Int) == 32 || bt b (k : Int) == bt a (k : Int)
def fitsB (a b : ByteArray) : Bool := a.size == b.size && allF (fitQ a b) b.size 0
theorem fits_loop (n : Nat) {a b : ByteArray} (hs : a.size = b.size) (hb : b.size < 1000000) : ∀ (f k : Nat), k ≤ b.size → b.size < f + k →
    it (fun F (x : ByteArray × ByteArray × Int × Int) => types_fits.b0 n F x.1 x.2.1 x.2.2.1 x.2.2.2) f (a, b, (b.size : Int), (k : Int)) = some (if allF (fitQ a b) (b.size - k) k = true then .inr ((), ()) else .inl ((false, ()), ()))
  | 0, k, hk, hf => by omega
  | f + 1, k, hk, hf => by
    have ih := fits_loop n hs hb f (k + 1)
    show types_fits.b0 n (it _ f) a b (b.size : Int) (k : Int) = _
    generalize it (fun F (x : ByteArray × ByteArray × Int × Int) => types_fits.b0 n F x.1 x.2.1 x.2.2.1 x.2.2.2) f = F at ih ⊢
    unfold types_fits.b0
    rcases Nat.lt_or_ge k b.size with hlt | hge
    · rw [if_pos (decide_eq_true (by omega)), if_pos (in_ix hlt), if_pos (by decide), show b.size - k = (b.size - (k + 1)) + 1 by omega]
      rw [show allF (fitQ a b) (b.size - (k + 1) + 1) k = (fitQ a b k && allF (fitQ a b) (b.size - (k + 1)) (k + 1)) from rfl, next_ix (by omega)]
      have e32 : bt (ByteArray.mk #[32]) 0 = 32 := by rfl
      rw [e32]
      by_cases h1 : bt b (k : Int) = 32
      · have : fitQ a b k = true := by unfold fitQ; rw [h1]; rfl
        rw [if_neg (fun h => (bne_iff_ne.1 h) h1), ih (by omega) (by omega), this, Bool.true_and]
      · rw [if_pos (bne_iff_ne.2 h1), if_pos (in_ix hlt), if_pos (in_ix (by omega))]
        by_cases h2 : bt b (k : Int) = bt a (k : Int)
        · have : fitQ a b k = true := by unfold fitQ; rw [h2]; simp
          rw [if_neg (fun h => (bne_iff_ne.1 h) h2), ih (by omega) (by omega), this, Bool.true_and]
        · have : fitQ a b k = false := by
            unfold fitQ
            rw [Bool.or_eq_false_iff, beq_eq_false_iff_ne, beq_eq_false_iff_ne]
            exact ⟨h1, h2⟩
          rw [if_pos (bne_iff_ne.2 h2), this, Bool.false_and, if_neg (by simp)]
    · have : k = b.size := by omega
      subst this
      rw [if_neg (by simp), Nat.sub_self]
      simp [allF]
theorem fits_is (n : Nat) (a b : ByteArray) (hb : b.size < n) (hn : n < 1000000) : types_fits.f n a b = some (fitsB a b) := by
  unfold types_fits.f types_fits.b0.l fitsB
  by_cases hs : a.size = b.size
  · rw [if_neg (fun h => (bne_iff_ne.1 h) (by rw [hs]))]
    have h0 := fits_loop n hs (by omega) n 0 (Nat.zero_le _) (by omega)
    rw [show ((0 : Nat) : Int) = 0 from rfl] at h0
    rw [h0, Option.bind_some, Nat.sub_zero]
    have e : (a.size == b.size) = true := by simpa using hs
    rw [e, Bool.true_and]
    rcases Bool.eq_false_or_eq_true (allF (fitQ a b) b.size 0) with hb | hb <;> rw [hb] <;> rfl
  · rw [if_pos (bne_iff_ne.2 (by omega))]
    have e : (a.size == b.size) = false := by simpa using hs
    rw [e, Bool.false_and]
theorem reffits_loop (n : Nat) {a b : ByteArray} (hs : a.size = b.size) (hb : b.size < 1000000) : ∀ (f k : Nat), k ≤ b.size → b.size < f + k →
    it (fun F (x : ByteArray × ByteArray × Int) => camshaftref07_fits.b0 n F x.1 x.2.1 x.2.2) f (a, b, (k : Int)) = some (if allF (fitQ a b) (b.size - k) k = true then .inr ((), ()) else .inl ((false, ()), ()))
  | 0, k, hk, hf => by omega
  | f + 1, k, hk, hf => by
    have ih := reffits_loop n hs hb f (k + 1)
    show camshaftref07_fits.b0 n (it _ f) a b (k : Int) = _
    generalize it (fun F (x : ByteArray × ByteArray × Int) => camshaftref07_fits.b0 n F x.1 x.2.1 x.2.2) f = F at ih ⊢
    unfold camshaftref07_fits.b0
    rcases Nat.lt_or_ge k b.size with hlt | hge
    · rw [if_pos (decide_eq_true (by omega)), if_pos (in_ix hlt), show b.size - k = (b.size - (k + 1)) + 1 by omega]
      rw [show allF (fitQ a b) (b.size - (k + 1) + 1) k = (fitQ a b k && allF (fitQ a b) (b.size - (k + 1)) (k + 1)) from rfl, next_ix (by omega)]
      by_cases h1 : bt b (k : Int) = 32
      · have : fitQ a b k = true := by unfold fitQ; rw [h1]; rfl
        rw [if_neg (fun h => (bne_iff_ne.1 h) h1), ih (by omega) (by omega), this, Bool.true_and]
      · rw [if_pos (bne_iff_ne.2 h1), if_pos (in_ix hlt), if_pos (in_ix (by omega))]
        by_cases h2 : bt b (k : Int) = bt a (k : Int)
        · have : fitQ a b k = true := by unfold fitQ; rw [h2]; simp
          rw [if_neg (fun h => (bne_iff_ne.1 h) h2), ih (by omega) (by omega), this, Bool.true_and]
        · have : fitQ a b k = false := by
            unfold fitQ
            rw [Bool.or_eq_false_iff, beq_eq_false_iff_ne, beq_eq_false_iff_ne]
            exact ⟨h1, h2⟩
          rw [if_pos (bne_iff_ne.2 h2), this, Bool.false_and, if_neg (by simp)]
    · have : k = b.size := by omega
      subst this
      rw [if_neg (by simp), Nat.sub_self]
      simp [allF]
theorem reffits_is (n : Nat) (a b : ByteArray) (hb : b.size < n) (hn : n < 1000000) : camshaftref07_fits.f n a b = some (fitsB a b) := by
  unfold camshaftref07_fits.f camshaftref07_fits.b0.l fitsB
  by_cases hs : a.size = b.size
  · rw [if_neg (fun h => (bne_iff_ne.1 h) (by rw [hs]))]
    have h0 := reffits_loop n hs (by omega) n 0 (Nat.zero_le _) (by omega)
    rw [show ((0 : Nat) : Int) = 0 from rfl] at h0
    rw [h0, Option.bind_some, Nat.sub_zero]
    have e : (a.size == b.size) = true := by simpa using hs
    rw [e, Bool.true_and]
    rcases Bool.eq_false_or_eq_true (allF (fitQ a b) b.size 0) with hb | hb <;> rw [hb] <;> rfl
  · rw [if_pos (bne_iff_ne.2 (by omega))]
    have e : (a.size == b.size) = false := by simpa using hs
    rw [e, Bool.false_and]
theorem right_op {o A B : Int} (h : rightI (o, A, B) = true) : 1 ≤ o ∧ o ≤ 25 := by
  have h1 := (right_is 0 (o, A, B)).symm
  rw [h] at h1
  by_cases hc : o < 1 ∨ o > 25
  · rw [opR_low 0 o A B hc] at h1
    cases h1
  · omega
theorem right5 {A B : Int} (h : rightI (5, A, B) = true) : 1 ≤ A ∧ A ≤ 12 := by
  have h1 := (right_is 0 (5, A, B)).symm.trans (opR5 0 A B)
  rw [h] at h1
  by_cases h2 : 1 ≤ A
  · by_cases h3 : A ≤ 12
    · exact ⟨h2, h3⟩
    · rw [if_pos (decide_eq_true h2), if_neg (by simpa using h3)] at h1
      cases h1
  · rw [if_neg (by simpa using h2)] at h1
    cases h1
def takesI (o : Int) : ByteArray := [(ByteArray.mk #[]), (ByteArray.mk #[32]), (ByteArray.mk #[32]), (ByteArray.mk #[32, 32]), (ByteArray.mk #[105, 105]), (ByteArray.mk #[105]), (ByteArray.mk #[98]), (ByteArray.mk #[98, 98]), (ByteArray.mk #[98, 98]), (ByteArray.mk #[98]), (ByteArray.mk #[]), (ByteArray.mk #[105]), (ByteArray.mk #[]), (ByteArray.mk #[105]), (ByteArray.mk #[]), (ByteArray.mk #[105]), (ByteArray.mk #[]), (ByteArray.mk #[105]), (ByteArray.mk #[]), (ByteArray.mk #[98]), (ByteArray.mk #[]), (ByteArray.mk #[]), (ByteArray.mk #[]), (ByteArray.mk #[]), (ByteArray.mk #[])].getD (o - 1).toNat ByteArray.empty
def givesI (o A : Int) (t : ByteArray) : ByteArray :=
  if o = 1 ∨ o = 6 ∨ o = 10 ∨ o = 11 ∨ o = 13 ∨ o = 15 ∨ o = 17 then ByteArray.mk #[105]
  else if o = 3 then t ++ t
  else if o = 4 then t.extract 1 t.size ++ t.extract 0 1
  else if o = 5 then (if A ≥ 11 then ByteArray.mk #[98] else ByteArray.mk #[105])
  else if o = 7 ∨ o = 8 ∨ o = 9 then ByteArray.mk #[98]
  else ByteArray.mk #[]
theorem op_cases {o : Int} (h : 1 ≤ o ∧ o ≤ 25) : o = 1 ∨ o = 2 ∨ o = 3 ∨ o = 4 ∨ o = 5 ∨ o = 6 ∨ o = 7 ∨ o = 8 ∨ o = 9 ∨ o = 10 ∨ o = 11 ∨ o = 12 ∨ o = 13 ∨ o = 14 ∨ o = 15 ∨ o = 16 ∨ o = 17 ∨ o = 18 ∨ o = 19 ∨ o = 20 ∨ o = 21 ∨ o = 22 ∨ o = 23 ∨ o = 24 ∨ o = 25 := by omega
theorem takes_size {o : Int} (h : 1 ≤ o ∧ o ≤ 25) : (takesI o).size ≤ 2 := by
  rcases op_cases h with rfl | rfl | rfl | rfl | rfl | rfl | rfl | rfl | rfl | rfl | rfl | rfl | rfl | rfl | rfl | rfl | rfl | rfl | rfl | rfl | rfl | rfl | rfl | rfl | rfl <;> decide
theorem takes_is (n : Nat) {o A B : Int} (h : rightI (o, A, B) = true) : types_Takes.f n (o, A, B) = some (takesI o) := by
  unfold types_Takes.f
  rw [right_is, h, Option.bind_some, if_neg (by decide)]
  rcases op_cases (right_op h) with rfl | rfl | rfl | rfl | rfl | rfl | rfl | rfl | rfl | rfl | rfl | rfl | rfl | rfl | rfl | rfl | rfl | rfl | rfl | rfl | rfl | rfl | rfl | rfl | rfl <;> rfl
theorem ref_takes_is (n : Nat) {o A B : Int} (h : rightI (o, A, B) = true) (hA : -9223372036854775808 ≤ A ∧ A ≤ 9223372036854775807) : camshaftref07_Takes.f n (o, A, B) = some (takesI o) := by
  unfold camshaftref07_Takes.f
  rw [right_eq n _ hA, right_is, h, Option.bind_some, if_neg (by decide)]
  rcases op_cases (right_op h) with rfl | rfl | rfl | rfl | rfl | rfl | rfl | rfl | rfl | rfl | rfl | rfl | rfl | rfl | rfl | rfl | rfl | rfl | rfl | rfl | rfl | rfl | rfl | rfl | rfl <;> rfl
theorem fits_size {a b : ByteArray} (h : fitsB a b = true) : a.size = b.size := by
  unfold fitsB at h
  rw [Bool.and_eq_true] at h
  simpa using h.1
theorem gives_is (n : Nat) (hn : 3 < n) (hn2 : n < 1000000) {o A B : Int} (h : rightI (o, A, B) = true) {t : ByteArray} (ht : fitsB t (takesI o) = true) : types_Gives.f n (o, A, B) t = some (givesI o A t) := by
  have hs := takes_size (right_op h)
  have ht2 := fits_size ht
  have hf := fits_is n t (takesI o) (by omega) hn2
  rw [ht] at hf
  have hdup : types_effects_1.f n (o, A, B) t = some (t ++ t) := by
    unfold types_effects_1.f
    rw [if_pos (by simp; omega)]
  have hswp : t.size = 2 → types_effects_2.f n (o, A, B) t = some (t.extract 1 t.size ++ t.extract 0 1) := fun h2 => by
    unfold types_effects_2.f
    rw [if_pos (by simp; omega), if_pos (by simp; omega)]
    simp only [ByteArray.size_extract]
    rw [if_pos (by simp; omega)]
  have htwo : 1 ≤ A ∧ A ≤ 12 → types_two.f n (o, A, B) t = some (if A ≥ 11 then ByteArray.mk #[98] else ByteArray.mk #[105]) := fun h2 => by
    unfold types_two.f
    by_cases c1 : A = 11
    · subst c1; rfl
    · by_cases c2 : A = 12
      · subst c2; rfl
      · rw [if_neg (by simpa using c1), if_neg (by simpa using c2), if_neg (by omega)]
  unfold types_Gives.f
  rw [right_is, h]
  rcases op_cases (right_op h) with rfl | rfl | rfl | rfl | rfl | rfl | rfl | rfl | rfl | rfl | rfl | rfl | rfl | rfl | rfl | rfl | rfl | rfl | rfl | rfl | rfl | rfl | rfl | rfl | rfl
  · refine Eq.trans (b := Option.bind (types_fits.f n t (takesI 1)) _) rfl ?_
    rw [hf]
    rfl
  · refine Eq.trans (b := Option.bind (types_fits.f n t (takesI 2)) _) rfl ?_
    rw [hf]
    rfl
  · refine Eq.trans (b := Option.bind (types_fits.f n t (takesI 3)) _) rfl ?_
    rw [hf]
    refine Eq.trans (b := Option.bind (types_effects_1.f n (3, A, B) t) some) rfl ?_
    rw [hdup]
    rfl
  · refine Eq.trans (b := Option.bind (types_fits.f n t (takesI 4)) _) rfl ?_
    rw [hf]
    refine Eq.trans (b := Option.bind (types_effects_2.f n (4, A, B) t) some) rfl ?_
    rw [hswp ht2]
    rfl
  · refine Eq.trans (b := Option.bind (types_fits.f n t (takesI 5)) _) rfl ?_
    rw [hf]
    refine Eq.trans (b := Option.bind (types_two.f n (5, A, B) t) some) rfl ?_
    rw [htwo (right5 h)]
    rfl
  · refine Eq.trans (b := Option.bind (types_fits.f n t (takesI 6)) _) rfl ?_
    rw [hf]
    rfl
  · refine Eq.trans (b := Option.bind (types_fits.f n t (takesI 7)) _) rfl ?_
    rw [hf]
    rfl
  · refine Eq.trans (b := Option.bind (types_fits.f n t (takesI 8)) _) rfl ?_
    rw [hf]
    rfl
  · refine Eq.trans (b := Option.bind (types_fits.f n t (takesI 9)) _) rfl ?_
    rw [hf]
    rfl
  · refine Eq.trans (b := Option.bind (types_fits.f n t (takesI 10)) _) rfl ?_
    rw [hf]
    rfl
  · refine Eq.trans (b := Option.bind (types_fits.f n t (takesI 11)) _) rfl ?_
    rw [hf]
    rfl
  · refine Eq.trans (b := Option.bind (types_fits.f n t (takesI 12)) _) rfl ?_
    rw [hf]
    rfl
  · refine Eq.trans (b := Option.bind (types_fits.f n t (takesI 13)) _) rfl ?_
    rw [hf]
    rfl
  · refine Eq.trans (b := Option.bind (types_fits.f n t (takesI 14)) _) rfl ?_
    rw [hf]
    rfl
  · refine Eq.trans (b := Option.bind (types_fits.f n t (takesI 15)) _) rfl ?_
    rw [hf]
    rfl
  · refine Eq.trans (b := Option.bind (types_fits.f n t (takesI 16)) _) rfl ?_
    rw [hf]
    rfl
  · refine Eq.trans (b := Option.bind (types_fits.f n t (takesI 17)) _) rfl ?_
    rw [hf]
    rfl
  · refine Eq.trans (b := Option.bind (types_fits.f n t (takesI 18)) _) rfl ?_
    rw [hf]
    rfl
  · rfl
  · refine Eq.trans (b := Option.bind (types_fits.f n t (takesI 20)) _) rfl ?_
    rw [hf]
    rfl
  · rfl
  · rfl
  · rfl
  · rfl
  · rfl
theorem ref_gives_is (n : Nat) (hn : 3 < n) (hn2 : n < 1000000) {o A B : Int} (h : rightI (o, A, B) = true) (hA : -9223372036854775808 ≤ A ∧ A ≤ 9223372036854775807) {t : ByteArray} (ht : fitsB t (takesI o) = true) : camshaftref07_Gives.f n (o, A, B) t = some (givesI o A t) := by
  have hs := takes_size (right_op h)
  have ht2 := fits_size ht
  have hf := reffits_is n t (takesI o) (by omega) hn2
  rw [ht] at hf
  unfold camshaftref07_Gives.f
  rw [right_eq n _ hA, right_is, h, Option.bind_some, if_neg (by decide), ref_takes_is n h hA, Option.bind_some, hf, Option.bind_some, if_neg (by decide)]
  rcases op_cases (right_op h) with rfl | rfl | rfl | rfl | rfl | rfl | rfl | rfl | rfl | rfl | rfl | rfl | rfl | rfl | rfl | rfl | rfl | rfl | rfl | rfl | rfl | rfl | rfl | rfl | rfl
  · rfl
  · rfl
  · refine Eq.trans (b := if decide (t.size + t.size ≤ 140737488351232) = true then some (t ++ t) else none) rfl ?_
    rw [if_pos (by simp; omega)]
    rfl
  · have h2 : t.size = 2 := ht2
    refine Eq.trans (b := if (decide ((0 : Int) ≤ 1) && decide ((1 : Int) ≤ (t.size : Int))) = true then (if (decide ((0 : Int) ≤ 1) && decide ((1 : Int) ≤ (t.size : Int))) = true then (if decide ((t.extract 1 t.size).size + (t.extract 0 1).size ≤ 140737488351232) = true then (some ((t.extract 1 t.size) ++ (t.extract 0 1))) else none) else none) else none) rfl ?_
    rw [if_pos (by simp; omega), if_pos (by simp; omega), if_pos (by simp only [ByteArray.size_extract]; simp; omega)]
    rfl
  · refine Eq.trans (b := if decide (A ≥ 11) = true then some (ByteArray.mk #[98]) else some (ByteArray.mk #[105])) rfl ?_
    by_cases c : A ≥ 11
    · rw [if_pos (decide_eq_true c)]
      unfold givesI
      rw [if_neg (by decide), if_neg (by decide), if_neg (by decide), if_pos rfl, if_pos c]
    · rw [if_neg (by simpa using c)]
      unfold givesI
      rw [if_neg (by decide), if_neg (by decide), if_neg (by decide), if_pos rfl, if_neg c]
  · rfl
  · rfl
  · rfl
  · rfl
  · rfl
  · rfl
  · rfl
  · rfl
  · rfl
  · rfl
  · rfl
  · rfl
  · rfl
  · rfl
  · rfl
  · rfl
  · rfl
  · rfl
  · rfl
  · rfl
end Go.Proofs.Dk

/- Plain: what closes, and what it closes. -/
namespace Go.Proofs.Dk
open Go
set_option maxRecDepth 100000
set_option linter.unusedVariables false
set_option linter.unusedSimpArgs false
theorem ends_op (x : Ins) : (ends x).1 = 22 ∨ (ends x).1 = 24 := by
  unfold ends
  split
  · exact .inl rfl
  · exact .inr rfl
theorem isOpen_iff {l : List Ins} {k : Nat} : isOpen l k = true ↔ opAt l k = 21 ∨ opAt l k = 23 := by
  unfold isOpen
  rw [Bool.or_eq_true, beq_iff_eq, beq_iff_eq]
theorem close_not {l : List Ins} {j k : Nat} (h : l.getD j (0, 0, 0) = ends (l.getD k (0, 0, 0))) : isOpen l j = false := by
  rw [Bool.eq_false_iff]
  intro h2
  rw [isOpen_iff] at h2
  have := ends_op (l.getD k (0, 0, 0))
  unfold opAt at h2
  rw [h] at h2
  omega
structure ScanK (l : List Ins) (i : Nat) (m : List Int) (op : List (Int × Ins)) : Prop where
  cl : ∀ j, j < i → opAt l j = 22 ∨ opAt l j = 24 → ∃ k : Nat, m.getD j 0 = (k : Int) ∧ k < j ∧ isOpen l k = true ∧ inOp op k = false ∧ m.getD k 0 = (j : Int) ∧ l.getD j (0, 0, 0) = ends (l.getD k (0, 0, 0))
  op_ : ∀ k, k < i → isOpen l k = true → inOp op k = true ∨ ∃ j : Nat, m.getD k 0 = (j : Int) ∧ k < j ∧ j < i ∧ l.getD j (0, 0, 0) = ends (l.getD k (0, 0, 0)) ∧ m.getD j 0 = (k : Int)
theorem inOp_false {op : List (Int × Ins)} {k : Nat} : inOp op k = false ↔ ∀ e ∈ op, e.1 ≠ (k : Int) := by
  unfold inOp
  rw [List.any_eq_false]
  simp
theorem inOp_true {op : List (Int × Ins)} {k : Nat} : inOp op k = true ↔ ∃ e ∈ op, e.1 = (k : Int) := by
  unfold inOp
  rw [List.any_eq_true]
  simp
theorem take_last {α : Type} {l : List α} {d : α} (h : 0 < l.length) : l = l.take (l.length - 1) ++ [l.getD (l.length - 1) d] := by
  have h1 : l.getD (l.length - 1) d = l[l.length - 1] := by
    rw [List.getD_eq_getElem?_getD, List.getElem?_eq_getElem (by omega)]
    rfl
  rw [h1]
  have h2 := List.take_append_getElem (l := l) (i := l.length - 1) (by omega)
  rw [h2, List.take_of_length_le (by omega)]
theorem ScanK.step {l : List Ins} {i : Nat} {m h m' h' : List Int} {op op' : List (Int × Ins)} (hI : ScanI l i m h op) (hJ : ScanJ l i m h op) (hK : ScanK l i m op) (hi : i < l.length) (hs : scanStep (l.getD i (0, 0, 0)) i m h op = some (m', h', op')) : ScanK l (i + 1) m' op' := by
  have him : i < m.length := by rw [hI.hm]; exact hi
  have m1 : ∀ k, k ≠ i → (m.set i (-1)).getD k 0 = m.getD k 0 := fun k hk => by rw [getD_set him, if_neg hk]
  unfold scanStep at hs
  simp only at hs
  by_cases ho : (l.getD i (0, 0, 0)).1 = 21 ∨ (l.getD i (0, 0, 0)).1 = 23
  · rw [if_pos ho] at hs
    simp only [Option.some.injEq, Prod.mk.injEq] at hs
    obtain ⟨rfl, rfl, rfl⟩ := hs
    refine ⟨fun j hj hc => ?_, fun k hk hk2 => ?_⟩
    · have : j ≠ i := fun e => by subst e; unfold opAt at hc; omega
      obtain ⟨k, k1, k2, k3, k4, k5, k6⟩ := hK.cl j (by omega) hc
      refine ⟨k, ?_, k2, k3, ?_, ?_, k6⟩
      · rw [m1 j this, k1]
      · rw [inOp_append, k4, inOp_false.2 (fun e he => ?_)]
        · rfl
        · rw [List.mem_singleton] at he
          subst he
          simp only
          omega
      · rw [m1 k (by omega), k5]
    · by_cases e : k = i
      · subst e
        exact .inl (inOp_true.2 ⟨_, List.mem_append_right _ (List.mem_singleton.2 rfl), rfl⟩)
      · rcases hK.op_ k (by omega) hk2 with h1 | ⟨j, j1, j2, j3, j4, j5⟩
        · exact .inl (by rw [inOp_append, h1, Bool.true_or])
        · exact .inr ⟨j, by rw [m1 k e, j1], j2, by omega, j4, by rw [m1 j (by omega), j5]⟩
  · rw [if_neg ho] at hs
    by_cases hc : (l.getD i (0, 0, 0)).1 = 22 ∨ (l.getD i (0, 0, 0)).1 = 24
    · rw [if_pos hc] at hs
      by_cases h0 : op.length = 0
      · rw [if_pos h0] at hs
        cases hs
      · rw [if_neg h0] at hs
        by_cases he : (op.getD (op.length - 1) (0, 0, 0, 0)).2 = l.getD i (0, 0, 0)
        · rw [if_pos he] at hs
          simp only [Option.some.injEq, Prod.mk.injEq] at hs
          obtain ⟨rfl, rfl, rfl⟩ := hs
          have hmem : op.getD (op.length - 1) (0, 0, 0, 0) ∈ op := last_mem (by omega)
          have htl := take_last (l := op) (d := (0, 0, 0, 0)) (by omega)
          obtain ⟨t, t1, t2, t3, t4, t5⟩ := hI.at_ _ hmem
          have hinc := hJ.inc
          generalize op.getD (op.length - 1) (0, 0, 0, 0) = top at *
          rw [t2, Int.toNat_natCast]
          have htin : inOp op t = true := inOp_true.2 ⟨_, hmem, t2⟩
          have hto : isOpen l t = true := isOpen_iff.2 t5
          have htm : t < ((m.set i (-1)).set i ((t : Nat) : Int)).length := by simp; omega
          have mt : ∀ k, k ≠ i → k ≠ t → (((m.set i (-1)).set i ((t : Nat) : Int)).set t (i : Int)).getD k 0 = m.getD k 0 := fun k h1 h2 => by
            rw [getD_set htm, if_neg h2, getD_set (by simpa using him), if_neg h1, m1 k h1]
          have mi : (((m.set i (-1)).set i ((t : Nat) : Int)).set t (i : Int)).getD i 0 = (t : Int) := by
            rw [getD_set htm, if_neg (by omega), getD_set (by simpa using him), if_pos rfl]
          have mtt : (((m.set i (-1)).set i ((t : Nat) : Int)).set t (i : Int)).getD t 0 = (i : Int) := by
            rw [getD_set htm, if_pos rfl]
          have hend : l.getD i (0, 0, 0) = ends (l.getD t (0, 0, 0)) := he.symm.trans t4
          have hlast : ∀ e ∈ op.take (op.length - 1), e.1 < top.1 := fun e he2 => by
            rw [htl] at hinc
            exact (List.pairwise_append.1 hinc).2.2 e he2 top (List.mem_singleton.2 rfl)
          have hnot : inOp (op.take (op.length - 1)) t = false := inOp_false.2 fun e he2 => by
            have := hlast e he2
            omega
          refine ⟨fun j hj hcj => ?_, fun k hk hk2 => ?_⟩
          · by_cases e : j = i
            · subst e
              exact ⟨t, mi, t1, hto, hnot, mtt, hend⟩
            · obtain ⟨k, k1, k2, k3, k4, k5, k6⟩ := hK.cl j (by omega) hcj
              have hkt : k ≠ t := fun e2 => by subst e2; rw [htin] at k4; cases k4
              have hjt : j ≠ t := fun e2 => by
                subst e2
                unfold opAt at hcj
                omega
              refine ⟨k, by rw [mt j e hjt, k1], k2, k3, ?_, by rw [mt k (by omega) hkt, k5], k6⟩
              exact inOp_false.2 fun e2 he2 => inOp_false.1 k4 e2 (List.mem_of_mem_take he2)
          · have hki : k ≠ i := fun e => by
              subst e
              rw [isOpen_iff] at hk2
              unfold opAt at hk2
              omega
            by_cases e : k = t
            · subst e
              exact .inr ⟨i, mtt, t1, by omega, hend, mi⟩
            · rcases hK.op_ k (by omega) hk2 with h1 | ⟨j, j1, j2, j3, j4, j5⟩
              · rw [inOp_true] at h1
                obtain ⟨e1, e2, e3⟩ := h1
                rw [htl] at e2
                rcases List.mem_append.1 e2 with h4 | h4
                · exact .inl (inOp_true.2 ⟨e1, h4, e3⟩)
                · rw [List.mem_singleton] at h4
                  subst h4
                  omega
              · have hjt : j ≠ t := fun e2 => by
                  subst e2
                  rw [close_not j4] at hto
                  cases hto
                exact .inr ⟨j, by rw [mt k hki e, j1], j2, by omega, j4, by rw [mt j (by omega) hjt, j5]⟩
        · rw [if_neg he] at hs
          cases hs
    · rw [if_neg hc] at hs
      simp only [Option.some.injEq, Prod.mk.injEq] at hs
      obtain ⟨rfl, rfl, rfl⟩ := hs
      refine ⟨fun j hj hcj => ?_, fun k hk hk2 => ?_⟩
      · have : j ≠ i := fun e => by subst e; exact hc hcj
        obtain ⟨k, k1, k2, k3, k4, k5, k6⟩ := hK.cl j (by omega) hcj
        exact ⟨k, by rw [m1 j this, k1], k2, k3, k4, by rw [m1 k (by omega), k5], k6⟩
      · have : k ≠ i := fun e => by subst e; exact ho (isOpen_iff.1 hk2)
        rcases hK.op_ k (by omega) hk2 with h1 | ⟨j, j1, j2, j3, j4, j5⟩
        · exact .inl h1
        · exact .inr ⟨j, by rw [m1 k this, j1], j2, by omega, j4, by rw [m1 j (by omega), j5]⟩
theorem scanK_end {l : List Ins} : ∀ (r i : Nat) {m h m' h' : List Int} {op op' : List (Int × Ins)}, ScanI l i m h op → ScanJ l i m h op → ScanK l i m op → r + i = l.length → scanS l r i m h op = some (m', h', op') → ScanK l l.length m' op'
  | 0, i, m, h, m', h', op, op', hI, hJ, hK, hr, hs => by
    simp only [scanS, Option.some.injEq, Prod.mk.injEq] at hs
    obtain ⟨rfl, rfl, rfl⟩ := hs
    have : i = l.length := by omega
    subst this
    exact hK
  | r + 1, i, m, h, m', h', op, op', hI, hJ, hK, hr, hs => by
    simp only [scanS] at hs
    cases hstep : scanStep (l.getD i (0, 0, 0)) i m h op with
    | none => rw [hstep] at hs; cases hs
    | some y =>
      obtain ⟨m1, h1, op1⟩ := y
      rw [hstep] at hs
      exact scanK_end r (i + 1) (hI.step (by omega) hstep) (hJ.step hI (by omega) hstep) (hK.step hI hJ (by omega) hstep) (by omega) hs
structure Closed (l : List Ins) (m : List Int) : Prop where
  cl : ∀ j, j < l.length → opAt l j = 22 ∨ opAt l j = 24 → ∃ k : Nat, m.getD j 0 = (k : Int) ∧ k < j ∧ isOpen l k = true ∧ m.getD k 0 = (j : Int) ∧ l.getD j (0, 0, 0) = ends (l.getD k (0, 0, 0))
  op_ : ∀ k, k < l.length → isOpen l k = true → ∃ j : Nat, m.getD k 0 = (j : Int) ∧ k < j ∧ j < l.length ∧ l.getD j (0, 0, 0) = ends (l.getD k (0, 0, 0)) ∧ m.getD j 0 = (k : Int)
theorem scanI_closed {l : List Ins} (h : (scanI l).2.2 = 0) : Closed l (scanI l).1 := by
  unfold scanI at h ⊢
  split at h
  · rename_i hr
    rw [if_pos hr]
    split at h
    · rename_i m' h' op hs
      split at h
      · cases h
      · rename_i h0
        simp only [if_neg h0]
        have hK := scanK_end l.length 0 (ScanI.start l) (ScanJ.start l) ⟨fun j hj => by omega, fun k hk => by omega⟩ (by omega) hs
        have : op = [] := List.eq_nil_of_length_eq_zero (by omega)
        subst this
        refine ⟨fun j hj hc => ?_, fun k hk ho => ?_⟩
        · obtain ⟨k, k1, k2, k3, k4, k5, k6⟩ := hK.cl j hj hc
          exact ⟨k, k1, k2, k3, k5, k6⟩
        · rcases hK.op_ k hk ho with h1 | h1
          · simp [inOp] at h1
          · exact h1
    · cases h
  · cases h
end Go.Proofs.Dk

/- Plain: the stacks of a row, by the program. -/
namespace Go.Proofs.Dk
open Go
set_option maxRecDepth 100000
set_option linter.unusedVariables false
set_option linter.unusedSimpArgs false
def neB (a b : ByteArray) : Bool := !(a.toList == b.toList)
def afterI (x : Ins) (s : ByteArray) : ByteArray × Int :=
  if s.size < (takesI x.1).size then (ByteArray.mk #[], 9)
  else if fitsB (s.extract (s.size - (takesI x.1).size) s.size) (takesI x.1) = true then
    (if (s.extract 0 (s.size - (takesI x.1).size) ++ givesI x.1 x.2.1 (s.extract (s.size - (takesI x.1).size) s.size)).size > 16 then (ByteArray.mk #[], 9)
    else (s.extract 0 (s.size - (takesI x.1).size) ++ givesI x.1 x.2.1 (s.extract (s.size - (takesI x.1).size) s.size), 0))
  else (ByteArray.mk #[], 10)
theorem after_size (x : Ins) (s : ByteArray) : (afterI x s).1.size ≤ 16 := by
  unfold afterI
  split
  · exact Nat.zero_le _
  · split
    · split
      · exact Nat.zero_le _
      · simp only; omega
    · exact Nat.zero_le _
theorem after_err (x : Ins) (s : ByteArray) : (afterI x s).2 = 0 ∨ (afterI x s).2 = 9 ∨ (afterI x s).2 = 10 := by
  unfold afterI
  split
  · exact .inr (.inl rfl)
  · split
    · split
      · exact .inr (.inl rfl)
      · exact .inl rfl
    · exact .inr (.inr rfl)
theorem gives_size {o A : Int} {t : ByteArray} (h : t.size ≤ 2) : (givesI o A t).size ≤ 4 := by
  unfold givesI
  split
  · decide
  · split
    · rw [ByteArray.size_append]; omega
    · split
      · rw [ByteArray.size_append, ByteArray.size_extract, ByteArray.size_extract]; omega
      · split
        · split <;> decide
        · split <;> decide
theorem cut_ix {a b : Nat} (h : b ≤ a) (ha : a < 1000000) : IntKind.wrap .i64 ((a : Int) - (b : Int)) = ((a - b : Nat) : Int) := by
  rw [wrap_id (by omega) (by omega)]
  omega
theorem after_is (n : Nat) (hn : 3 < n) (hn2 : n < 1000000) {o A B : Int} (h : rightI (o, A, B) = true) {s : ByteArray} (hs : s.size ≤ 16) : types_after.f n (o, A, B) s = some (afterI (o, A, B) s) := by
  have ht := takes_size (right_op h)
  unfold types_after.f afterI
  simp only [takes_is n h, Option.bind_some]
  by_cases hlt : s.size < (takesI o).size
  · rw [if_pos hlt, if_pos]
    rw [wrap_id (by omega) (by omega)]
    simp; omega
  · rw [if_neg hlt, cut_ix (by omega) (by omega), if_neg (by simp), if_pos (by simp), Int.toNat_natCast, fits_is n _ _ (by omega) hn2, Option.bind_some]
    rcases Bool.eq_false_or_eq_true (fitsB (s.extract (s.size - (takesI o).size) s.size) (takesI o)) with hf | hf
    · rw [hf, if_neg (by decide), if_pos rfl, if_pos (by simp), gives_is n hn hn2 h hf, Option.bind_some]
      have hg := gives_size (o := o) (A := A) (t := s.extract (s.size - (takesI o).size) s.size) (by rw [ByteArray.size_extract]; omega)
      have hx : (s.extract 0 (s.size - (takesI o).size)).size ≤ 16 := by rw [ByteArray.size_extract]; omega
      rw [if_pos (decide_eq_true (by omega))]
      generalize s.extract 0 (s.size - (takesI o).size) ++ givesI o A (s.extract (s.size - (takesI o).size) s.size) = out
      by_cases hb : out.size > 16
      · rw [if_pos hb, if_pos (show decide ((out.size : Int) > 16) = true from decide_eq_true (by omega)), if_pos (by simp)]
      · rw [if_neg hb, if_neg (show ¬ decide ((out.size : Int) > 16) = true by simp only [decide_eq_true_eq]; omega), if_pos (by simp)]
    · rw [hf, if_pos (by decide), if_neg (by decide)]
abbrev Flow := List ByteArray × List Bool × List Bool
def handI (q : Nat) (t : ByteArray) (f : Flow) : Flow := (f.1.set q t, f.2.1.set q true, if (f.2.1.getD q false && neB (f.1.getD q ByteArray.empty) t) = true then f.2.2.set q true else f.2.2)
def nextsI (l : List Ins) (i : Nat) : List Nat := if opAt l i = 19 then [jumpTo l i] else if opAt l i = 20 then [i + 1, jumpTo l i] else if opAt l i = 25 then [] else [i + 1]
def flowStep (l : List Ins) (m : List Int) (i : Nat) (f : Flow) : Int ⊕ Flow :=
  if f.2.1.getD i false = false then .inl 8
  else if f.2.2.getD i false = true then .inl 10
  else if opAt l i = 22 ∧ neB (f.1.getD (m.getD i 0).toNat ByteArray.empty) (f.1.getD i ByteArray.empty) = true then .inl 10
  else if (afterI (l.getD i (0, 0, 0)) (f.1.getD i ByteArray.empty)).2 ≠ 0 then .inl (afterI (l.getD i (0, 0, 0)) (f.1.getD i ByteArray.empty)).2
  else .inr ((nextsI l i).foldl (fun g k => handI k (afterI (l.getD i (0, 0, 0)) (f.1.getD i ByteArray.empty)).1 g) f)
structure FlowI (l : List Ins) (f : Flow) : Prop where
  a : f.1.length = l.length
  b : f.2.1.length = l.length
  c : f.2.2.length = l.length
  s : ∀ k, (f.1.getD k ByteArray.empty).size ≤ 16
theorem handI_ok {l : List Ins} {f : Flow} (h : FlowI l f) (q : Nat) {t : ByteArray} (ht : t.size ≤ 16) : FlowI l (handI q t f) := by
  refine ⟨by simp [handI, h.a], by simp [handI, h.b], ?_, fun k => ?_⟩
  · unfold handI
    simp only
    split
    · simp [h.c]
    · exact h.c
  · unfold handI
    simp only
    rcases Nat.lt_or_ge q f.1.length with hlt | hge
    · rw [getD_set hlt]
      split
      · exact ht
      · exact h.s k
    · rw [List.set_eq_of_length_le hge]
      exact h.s k
theorem stacks_j0 (n : Nat) {l : List Ins} {f : Flow} (h : FlowI l f) {q : Nat} (hto : q < l.length) (t : ByteArray) :
    types_Stacks.j0 n (q : Int) t f.1 f.2.1 f.2.2 = some ((q : Int), t, f.1, f.2.1, (handI q t f).2.2) := by
  obtain ⟨st, so, cl⟩ := f
  have ha : st.length = l.length := h.a
  have hb : so.length = l.length := h.b
  have hc : cl.length = l.length := h.c
  unfold types_Stacks.j0 handI neB
  simp only [Int.toNat_natCast]
  rw [if_pos (in_ix (by omega))]
  rcases Bool.eq_false_or_eq_true (so.getD q false) with h1 | h1
  · rw [h1, if_pos rfl, if_pos (in_ix (by omega)), Bool.true_and]
    rcases Bool.eq_false_or_eq_true (!((st.getD q ByteArray.empty).toList == t.toList)) with h2 | h2
    · rw [h2, if_pos rfl, if_pos (in_ix (by omega)), if_pos rfl]
    · rw [h2, if_neg (by decide), if_neg (by decide)]
  · rw [h1, if_neg (by decide), Bool.false_and, if_neg (by decide)]
theorem stacks_hand (n : Nat) {l : List Ins} {f : Flow} (h : FlowI l f) {q : Nat} (hto : q < l.length) (t : ByteArray) {R : Type} (K : Int → ByteArray → List ByteArray → List Bool → List Bool → Option R) :
    ((types_Stacks.j0 n (q : Int) t f.1 f.2.1 f.2.2).bind fun y => (if (decide (0 ≤ y.1) && decide (y.1 < (y.2.2.2.1.length : Int))) then (if (decide (0 ≤ y.1) && decide (y.1 < (y.2.2.1.length : Int))) then K y.1 y.2.1 (y.2.2.1.set y.1.toNat y.2.1) (y.2.2.2.1.set y.1.toNat true) y.2.2.2.2 else none) else none)) = K (q : Int) t (handI q t f).1 (handI q t f).2.1 (handI q t f).2.2 := by
  rw [stacks_j0 n h hto t, Option.bind_some]
  simp only
  rw [if_pos (in_ix (by rw [h.b]; exact hto)), if_pos (in_ix (by rw [h.a]; exact hto)), Int.toNat_natCast]
  rfl
end Go.Proofs.Dk

/- Plain: the stacks of a row, by the program, on. -/
namespace Go.Proofs.Dk
open Go
set_option maxRecDepth 100000
set_option linter.unusedVariables false
set_option linter.unusedSimpArgs false
structure Fine (l : List Ins) (m h : List Int) : Prop where
  nest : Nest l m h
  closed : Closed l m
  ends : ∀ j, j < l.length → endQ l j = true
  jumps : ∀ j, j < l.length → jumpQ l h j = true
theorem whole_fine {l : List Ins} (h : wholeI l = 0) : Fine l (scanI l).1 (scanI l).2.1 := by
  have hs := whole_scan h
  unfold wholeI at h
  rw [if_neg (by simpa using hs)] at h
  split at h
  · rename_i h1
    split at h
    · rename_i h2
      exact ⟨scanI_nest hs, scanI_closed hs, fun j hj => allF_iff.1 h1 j (Nat.zero_le _) (by omega), fun j hj => allF_iff.1 h2 j (Nat.zero_le _) (by omega)⟩
    · cases h
  · cases h
theorem Fine.len {l : List Ins} {m h : List Int} (hF : Fine l m h) : 0 < l.length ∧ l.length ≤ 200 := ⟨(rowI_len hF.nest.row).1, (rowI_len hF.nest.row).2.1⟩
theorem Fine.right {l : List Ins} {m h : List Int} (hF : Fine l m h) {i : Nat} (hi : i < l.length) : rightI (l.getD i (0, 0, 0)) = true := (rowI_len hF.nest.row).2.2 i hi
theorem Fine.succ {l : List Ins} {m h : List Int} (hF : Fine l m h) {i : Nat} (hi : i < l.length) (h : opAt l i ≠ 25) : i + 1 < l.length := by
  have h1 := hF.ends i hi
  unfold endQ at h1
  have h2 : ((l.getD i (0, 0, 0)).1 == 25) = false := by rw [beq_eq_false_iff_ne]; exact h
  rw [h2] at h1
  have h3 : ((i : Int) == ((l.length - 1 : Nat) : Int)) = false := by
    cases h4 : ((i : Int) == ((l.length - 1 : Nat) : Int))
    · rfl
    · rw [h4] at h1; cases h1
  rw [beq_eq_false_iff_ne] at h3
  omega
theorem Fine.last {l : List Ins} {m h : List Int} (hF : Fine l m h) : opAt l (l.length - 1) = 25 := by
  have h1 := hF.ends (l.length - 1) (by have := hF.len; omega)
  unfold endQ at h1
  have h3 : (((l.length - 1 : Nat) : Int) == ((l.length - 1 : Nat) : Int)) = true := by simp
  rw [h3] at h1
  cases h4 : ((l.getD (l.length - 1) (0, 0, 0)).1 == 25)
  · rw [h4] at h1; cases h1
  · exact eq_of_beq h4
theorem Fine.jump {l : List Ins} {m h : List Int} (hF : Fine l m h) {i : Nat} (hi : i < l.length) (hj : opAt l i = 19 ∨ opAt l i = 20) : jumpTo l i < l.length ∧ homeAt l m (jumpTo l i) = homeAt l m i := by
  have h1 := hF.jumps i hi
  unfold jumpQ at h1
  rw [if_pos hj] at h1
  rw [Bool.and_eq_true, decide_eq_true_eq, beq_iff_eq] at h1
  refine ⟨h1.1, ?_⟩
  rw [← hF.nest.home i hi, ← hF.nest.home _ h1.1]
  exact h1.2
theorem Fine.next {l : List Ins} {m h : List Int} (hF : Fine l m h) {i : Nat} (hi : i < l.length) : ∀ k ∈ nextsI l i, k < l.length := by
  intro k hk
  unfold nextsI at hk
  split at hk
  · rename_i h1
    rw [List.mem_singleton] at hk
    subst hk
    exact (hF.jump hi (.inl h1)).1
  · split at hk
    · rename_i h1 h2
      rw [List.mem_cons, List.mem_singleton] at hk
      rcases hk with rfl | rfl
      · exact hF.succ hi (by omega)
      · exact (hF.jump hi (.inr h2)).1
    · split at hk
      · cases hk
      · rename_i h3
        rw [List.mem_singleton] at hk
        subst hk
        exact hF.succ hi h3
theorem foldl_ok {l : List Ins} {t : ByteArray} (ht : t.size ≤ 16) : ∀ (ks : List Nat) {f : Flow}, FlowI l f → FlowI l (ks.foldl (fun f k => handI k t f) f)
  | [], f, h => h
  | k :: ks, f, h => foldl_ok ht ks (handI_ok h k ht)
theorem flowStep_ok {l : List Ins} {m : List Int} {i : Nat} {f f' : Flow} (h : FlowI l f) (hs : flowStep l m i f = .inr f') : FlowI l f' := by
  unfold flowStep at hs
  split at hs
  · cases hs
  · split at hs
    · cases hs
    · split at hs
      · cases hs
      · split at hs
        · cases hs
        · cases hs
          exact foldl_ok (after_size _ _) _ h
theorem stacks_step (n : Nat) (hn : 3 < n) (hn2 : n < 1000000) {l : List Ins} {m h : List Int} (hF : Fine l m h) (F : ((List Int) × (List (Int × (Int × Int))) × Int × Int × (List ByteArray) × (List Bool) × (List Bool)) → Option (((((List ByteArray) × Int × Unit) × (((List ByteArray) × (List Bool) × (List Bool) × Unit) × Unit)) ⊕ (Unit × (((List ByteArray) × (List Bool) × (List Bool) × Unit) × Unit))))) {f : Flow} (hf : FlowI l f) {i : Nat} (hi : i < l.length) :
    types_Stacks.b3 n F m l (l.length : Int) (i : Int) f.1 f.2.1 f.2.2 = match flowStep l m i f with
      | .inl e => some (.inl (([], e, ()), ((f.1, f.2.1, f.2.2, ()), ())))
      | .inr f' => F (m, l, (l.length : Int), ((i + 1 : Nat) : Int), f'.1, f'.2.1, f'.2.2) := by
  obtain ⟨l1, l2⟩ := hF.len
  have ha := hf.a
  have hb := hf.b
  have hc := hf.c
  have hr := hF.right hi
  have hm : opAt l i = 22 → ∃ j : Nat, m.getD i 0 = (j : Int) ∧ j < l.length := fun h22 => by
    obtain ⟨k, k1, k2, _⟩ := hF.closed.cl i hi (.inl h22)
    exact ⟨k, k1, by omega⟩
  have hnx := hF.next hi
  have hjx := fun hj => (hF.jump hi hj).1
  have hjw := fun hj => jump_ix (by omega) hi hr hj
  unfold types_Stacks.b3 types_Stacks.j1 flowStep
  simp only [Int.toNat_natCast]
  rw [if_pos (decide_eq_true (by omega)), if_pos (in_ix hi), if_pos (in_ix (by omega)), if_pos (in_ix (by omega)), next_ix (by omega)]
  rcases Bool.eq_false_or_eq_true (f.2.1.getD i false) with h1 | h1
  · rw [h1, if_neg (show ¬ (!true) = true by decide), if_neg (show ¬ true = false by decide), if_pos (in_ix (by omega))]
    rcases Bool.eq_false_or_eq_true (f.2.2.getD i false) with h2 | h2
    · rw [h2, if_pos rfl, if_pos rfl]
      rfl
    · rw [h2, if_neg (show ¬ false = true by decide), if_neg (show ¬ false = true by decide)]
      have key : (afterI (l.getD i (0, 0, 0)) (f.1.getD i ByteArray.empty)).1.size ≤ 16 := after_size _ _
      have tail : ((types_after.f n ((l.getD i (0, 0, 0)).1, ((l.getD i (0, 0, 0)).2.1, (l.getD i (0, 0, 0)).2.2)) (f.1.getD i ByteArray.empty)).bind fun y19 => (if (y19.2 != 0) then (if (y19.2 != 0) then (some (.inl (([], y19.2, ()), ((f.1, f.2.1, f.2.2, ()), ())))) else (F (m, l, (l.length : Int), ((i + 1 : Nat) : Int), f.1, f.2.1, f.2.2))) else ((types_Stacks.j2 n (i : Int) y19.1 f.1 f.2.1 f.2.2 (l.getD i (0, 0, 0)).1 (l.getD i (0, 0, 0)).2.1 (l.getD i (0, 0, 0)).2.2).bind fun y20 => (if (y20.2.2.2.2.2.1 == 19) then ((types_Stacks.j0 n (IntKind.wrap .i64 ((IntKind.wrap .i64 (y20.1 + 1)) + y20.2.2.2.2.2.2.1)) y20.2.1 y20.2.2.1 y20.2.2.2.1 y20.2.2.2.2.1).bind fun y21 => (if (decide (0 ≤ y21.1) && decide (y21.1 < (y21.2.2.2.1.length : Int))) then (if (decide (0 ≤ y21.1) && decide (y21.1 < (y21.2.2.1.length : Int))) then (F (m, l, (l.length : Int), ((i + 1 : Nat) : Int), (y21.2.2.1.set y21.1.toNat y21.2.1), (y21.2.2.2.1.set y21.1.toNat true), y21.2.2.2.2)) else none) else none)) else (if (y20.2.2.2.2.2.1 == 20) then ((types_Stacks.j0 n (IntKind.wrap .i64 ((IntKind.wrap .i64 (y20.1 + 1)) + y20.2.2.2.2.2.2.1)) y20.2.1 y20.2.2.1 y20.2.2.2.1 y20.2.2.2.2.1).bind fun y22 => (if (decide (0 ≤ y22.1) && decide (y22.1 < (y22.2.2.2.1.length : Int))) then (if (decide (0 ≤ y22.1) && decide (y22.1 < (y22.2.2.1.length : Int))) then (F (m, l, (l.length : Int), ((i + 1 : Nat) : Int), (y22.2.2.1.set y22.1.toNat y22.2.1), (y22.2.2.2.1.set y22.1.toNat true), y22.2.2.2.2)) else none) else none)) else (F (m, l, (l.length : Int), ((i + 1 : Nat) : Int), y20.2.2.1, y20.2.2.2.1, y20.2.2.2.2.1))))))) = match (if (afterI (l.getD i (0, 0, 0)) (f.1.getD i ByteArray.empty)).2 ≠ 0 then Sum.inl (afterI (l.getD i (0, 0, 0)) (f.1.getD i ByteArray.empty)).2
          else Sum.inr ((nextsI l i).foldl (fun g k => handI k (afterI (l.getD i (0, 0, 0)) (f.1.getD i ByteArray.empty)).1 g) f) : Int ⊕ Flow) with
        | .inl e => some (.inl (([], e, ()), ((f.1, f.2.1, f.2.2, ()), ())))
        | .inr f' => F (m, l, (l.length : Int), ((i + 1 : Nat) : Int), f'.1, f'.2.1, f'.2.2) := by
        have hA := after_is n hn hn2 (o := (l.getD i (0, 0, 0)).1) (A := (l.getD i (0, 0, 0)).2.1) (B := (l.getD i (0, 0, 0)).2.2) hr (hf.s i)
        rw [hA, Option.bind_some]
        have e0 : ((l.getD i (0, 0, 0)).1, (l.getD i (0, 0, 0)).2.1, (l.getD i (0, 0, 0)).2.2) = l.getD i (0, 0, 0) := rfl
        rw [e0]
        generalize afterI (l.getD i (0, 0, 0)) (f.1.getD i ByteArray.empty) = te at key ⊢
        obtain ⟨t, e⟩ := te
        simp only
        by_cases he : e = 0
        · subst he
          rw [if_neg (by decide), if_neg (by decide)]
          unfold types_Stacks.j2
          rw [next_ix (by omega)]
          by_cases h19 : (l.getD i (0, 0, 0)).1 = 19
          · have hj := hjw (.inl h19)
            have nx : nextsI l i = [jumpTo l i] := by unfold nextsI; rw [if_pos h19]
            rw [nx, h19, if_neg (by decide), Option.bind_some]
            simp only
            rw [next_ix (by omega), hj, if_pos (show ((19 : Int) == 19) = true from rfl)]
            exact stacks_hand n hf (hjx (.inl h19)) t fun a b c d e => F (m, l, (l.length : Int), ((i + 1 : Nat) : Int), c, d, e)
          · rw [if_pos (bne_iff_ne.2 h19)]
            have b19 : ¬ ((l.getD i (0, 0, 0)).1 == 19) = true := by simpa only [beq_iff_eq] using h19
            by_cases h25 : (l.getD i (0, 0, 0)).1 = 25
            · have nx : nextsI l i = [] := by unfold nextsI opAt; rw [h25]; rfl
              rw [nx, h25, if_neg (by decide), Option.bind_some]
              rfl
            · have hs1 := hF.succ hi h25
              rw [if_pos (bne_iff_ne.2 h25), stacks_hand n hf hs1 t fun a b c d e => some ((i : Int), t, c, d, e, (l.getD i (0, 0, 0)).1, (l.getD i (0, 0, 0)).2.1, (l.getD i (0, 0, 0)).2.2), Option.bind_some]
              simp only
              rw [next_ix (by omega), if_neg b19]
              have hf1 := handI_ok hf (i + 1) key
              by_cases h20 : (l.getD i (0, 0, 0)).1 = 20
              · have nx : nextsI l i = [i + 1, jumpTo l i] := by unfold nextsI; rw [if_neg h19, if_pos h20]
                rw [nx, hjw (.inr h20), h20, if_pos (show ((20 : Int) == 20) = true from rfl)]
                exact stacks_hand n hf1 (hjx (.inr h20)) t fun a b c d e => F (m, l, (l.length : Int), ((i + 1 : Nat) : Int), c, d, e)
              · have nx : nextsI l i = [i + 1] := by unfold nextsI; rw [if_neg h19, if_neg h20, if_neg h25]
                rw [nx, if_neg (show ¬ ((l.getD i (0, 0, 0)).1 == 20) = true by simpa only [beq_iff_eq] using h20)]
                rfl
        · rw [if_pos (bne_iff_ne.2 he), if_pos (bne_iff_ne.2 he), if_pos he]
      by_cases h22 : (l.getD i (0, 0, 0)).1 = 22
      · obtain ⟨j, j1, j2⟩ := hm h22
        rw [if_pos (show ((l.getD i (0, 0, 0)).1 == 22) = true by simpa only [beq_iff_eq] using h22), if_pos (in_ix (by rw [hF.nest.hm]; exact hi))]
        simp only [j1, Int.toNat_natCast]
        rw [if_pos (in_ix (show j < f.1.length by omega))]
        rcases Bool.eq_false_or_eq_true (neB (f.1.getD j ByteArray.empty) (f.1.getD i ByteArray.empty)) with h3 | h3
        · rw [if_pos (show opAt l i = 22 ∧ neB (f.1.getD j ByteArray.empty) (f.1.getD i ByteArray.empty) = true from ⟨h22, h3⟩)]
          unfold neB at h3
          rw [h3, if_pos rfl]
          rfl
        · rw [if_neg (show ¬ (opAt l i = 22 ∧ neB (f.1.getD j ByteArray.empty) (f.1.getD i ByteArray.empty) = true) from fun h => by rw [h3] at h; cases h.2)]
          unfold neB at h3
          rw [h3, if_neg (by decide)]
          exact tail
      · rw [if_neg (show ¬ ((l.getD i (0, 0, 0)).1 == 22) = true by simpa only [beq_iff_eq] using h22), if_neg (fun h => h22 h.1)]
        exact tail
  · rw [h1, if_pos (show (!false) = true from rfl), if_pos rfl]
    rfl
def stacksS (l : List Ins) (m : List Int) : Nat → Nat → Flow → Int ⊕ Flow
  | 0, _, f => .inr f
  | r + 1, i, f => match flowStep l m i f with
    | .inl e => .inl e
    | .inr f => stacksS l m r (i + 1) f
theorem stacks_loop (n : Nat) (hn : 3 < n) (hn2 : n < 1000000) {l : List Ins} {m h : List Int} (hF : Fine l m h) : ∀ (f i : Nat) {s : Flow}, FlowI l s → i ≤ l.length → l.length < f + i → ∃ a b c d e,
    it (fun F (x : (List Int) × (List (Int × (Int × Int))) × Int × Int × (List ByteArray) × (List Bool) × (List Bool)) => types_Stacks.b3 n F x.1 x.2.1 x.2.2.1 x.2.2.2.1 x.2.2.2.2.1 x.2.2.2.2.2.1 x.2.2.2.2.2.2) f (m, l, (l.length : Int), (i : Int), s.1, s.2.1, s.2.2) = match stacksS l m (l.length - i) i s with
      | .inl z => some (.inl (([], z, ()), ((a, b, c, ()), ())))
      | .inr s' => some (.inr ((), ((s'.1, d, e, ()), ())))
  | 0, i, s, hs, hi, hf => by omega
  | f + 1, i, s, hs, hi, hf => by
    have ih := fun {s : Flow} => stacks_loop n hn hn2 hF f (i + 1) (s := s)
    show ∃ a b c d e, types_Stacks.b3 n (it _ f) m l (l.length : Int) (i : Int) s.1 s.2.1 s.2.2 = _
    generalize it (fun F (x : (List Int) × (List (Int × (Int × Int))) × Int × Int × (List ByteArray) × (List Bool) × (List Bool)) => types_Stacks.b3 n F x.1 x.2.1 x.2.2.1 x.2.2.2.1 x.2.2.2.2.1 x.2.2.2.2.2.1 x.2.2.2.2.2.2) f = F at ih ⊢
    rcases Nat.lt_or_ge i l.length with hlt | hge
    · rw [stacks_step n hn hn2 hF F hs hlt, show l.length - i = (l.length - (i + 1)) + 1 by omega]
      simp only [stacksS]
      cases hq : flowStep l m i s with
      | inl e => exact ⟨s.1, s.2.1, s.2.2, [], [], rfl⟩
      | inr s' => exact ih (flowStep_ok hs hq) (by omega) (by omega)
    · have : i = l.length := by omega
      subst this
      unfold types_Stacks.b3
      rw [if_neg (by simp), Nat.sub_self]
      exact ⟨[], [], [], s.2.1, s.2.2, rfl⟩
def flow0 (l : List Ins) : Flow := (List.replicate l.length ByteArray.empty, (List.replicate l.length false).set 0 true, List.replicate l.length false)
theorem flow0_ok (l : List Ins) : FlowI l (flow0 l) := ⟨by simp [flow0], by simp [flow0], by simp [flow0], fun k => by
  unfold flow0
  simp only [List.getD_eq_getElem?_getD, List.getElem?_replicate]
  split <;> exact Nat.zero_le _⟩
noncomputable def stacksI (l : List Ins) : Int := if wholeI l ≠ 0 then wholeI l else match stacksS l (scanI l).1 l.length 0 (flow0 l) with
  | .inl e => e
  | .inr _ => 0
theorem match_is (n : Nat) (l : List Ins) (hl : l.length < n) (hn : n < 1000000) : nest_Match.f n l = some ((scanI l).1, (scanI l).2.2) := by
  unfold nest_Match.f
  rw [scan_is n l hl hn]
  rfl
theorem stacks_is (n : Nat) (l : List Ins) (hl : l.length < n) (hn3 : 3 < n) (hn : n < 1000000) : ∃ o, types_Stacks.f n l = some (o, stacksI l) := by
  unfold types_Stacks.f stacksI
  rw [whole_is n l hl hn, Option.bind_some]
  by_cases hw : wholeI l = 0
  · have hF := whole_fine hw
    have hI := flow0_ok l
    obtain ⟨l1, l2⟩ := hF.len
    obtain ⟨a, b, c, d, e, h⟩ := stacks_loop n hn3 hn hF n 0 hI (Nat.zero_le _) (by omega)
    have c1 : (decide (0 ≤ (l.length : Int)) && ((l.length : Int) == (l.length : Int)) && decide ((l.length : Int) * (16 : Int) ≤ 140737488355328) && decide (1 ≤ 16)) = true := by simp; omega
    have c2 : (decide (0 ≤ (l.length : Int)) && ((l.length : Int) == (l.length : Int)) && decide ((l.length : Int) * (1 : Int) ≤ 140737488355328) && decide (1 ≤ 1)) = true := by simp; omega
    rw [if_neg (fun h => (bne_iff_ne.1 h) hw), match_is n l hl hn, Option.bind_some, if_pos c1, if_pos c2, if_pos c2, if_neg (show ¬ (wholeI l ≠ 0) from fun h => h hw), Int.toNat_natCast]
    have hX : FlowI l (List.replicate l.length ByteArray.empty, List.replicate l.length false, List.replicate l.length false) := ⟨by simp, by simp, by simp, hI.s⟩
    have e0 : handI 0 (ByteArray.mk #[]) (List.replicate l.length ByteArray.empty, List.replicate l.length false, List.replicate l.length false) = flow0 l := by
      unfold handI flow0
      have e1 : (ByteArray.mk #[]) = ByteArray.empty := rfl
      have e2 : (List.replicate l.length false).getD 0 false = false := by
        simp only [List.getD_eq_getElem?_getD, List.getElem?_replicate]
        split <;> rfl
      simp only [e1, List.set_replicate_self, e2]
      rfl
    have h0 := stacks_hand n hX l1 (ByteArray.mk #[]) fun a b c d e => (types_Stacks.b3.l n ((scanI l).1, l, (l.length : Int), 0, c, d, e)).bind fun y4 => ((Sum.elim (fun (z5 : (((List ByteArray) × Int × Unit) × (((List ByteArray) × (List Bool) × (List Bool) × Unit) × Unit))) => (some (z5.1.1, z5.1.2.1))) (fun (z6 : (Unit × (((List ByteArray) × (List Bool) × (List Bool) × Unit) × Unit))) => (some (z6.2.1.1, (0 : Int))))) y4)
    rw [e0] at h0
    unfold types_Stacks.b3.l at h0 ⊢
    rw [Nat.sub_zero] at h
    refine Exists.imp (fun o ho => h0.trans ho) ?_
    rw [show ((0 : Nat) : Int) = 0 from rfl] at h
    rw [h]
    cases hq : stacksS l (scanI l).1 l.length 0 (flow0 l) with
    | inl z => exact ⟨[], rfl⟩
    | inr s' => exact ⟨s'.1, rfl⟩
  · rw [if_pos (by simp only [bne_iff_ne, ne_eq]; exact hw), if_pos hw]
    exact ⟨_, rfl⟩
end Go.Proofs.Dk

/- Plain: the stacks of a row, as the document says. -/
namespace Go.Proofs.Dk
open Go
set_option maxRecDepth 100000
set_option linter.unusedVariables false
set_option linter.unusedSimpArgs false
theorem set_same {c : List Bool} {q : Nat} {b : Bool} (h : c.getD q false = b) (hq : q < c.length) : c.set q b = c := by
  rw [List.getD_eq_getElem?_getD, List.getElem?_eq_getElem hq, Option.getD_some] at h
  subst h
  exact List.set_getElem_self hq
theorem refstacks_b1 (n : Nat) {l : List Ins} (hl : l.length < 1000000) {m : List Int} {t : ByteArray} (ht : t.size ≤ 16) {ks : List Nat} (hks : ∀ q ∈ ks, q < l.length) (hk9 : ks.length < 1000) (i : Int) : ∀ (fu k : Nat) {f : Flow}, FlowI l f → k ≤ ks.length → ks.length < fu + k →
    it (fun F (x : (List (Int × (Int × Int))) × (List Int) × (List ByteArray) × (List Bool) × (List Bool) × Int × ByteArray × (List Int) × Int) => camshaftref07_Stacks.b1 n F x.1 x.2.1 x.2.2.1 x.2.2.2.1 x.2.2.2.2.1 x.2.2.2.2.2.1 x.2.2.2.2.2.2.1 x.2.2.2.2.2.2.2.1 x.2.2.2.2.2.2.2.2) fu (l, m, f.1, f.2.1, f.2.2, i, t, ks.map (fun (q : Nat) => (q : Int)), (k : Int)) = some (l, m, ((ks.drop k).foldl (fun g q => handI q t g) f).1, ((ks.drop k).foldl (fun g q => handI q t g) f).2.1, ((ks.drop k).foldl (fun g q => handI q t g) f).2.2, i)
  | 0, k, f, hf, hk, hfu => by omega
  | fu + 1, k, f, hf, hk, hfu => by
    have ih := fun {f : Flow} => refstacks_b1 n hl (m := m) ht hks hk9 i fu (k + 1) (f := f)
    show camshaftref07_Stacks.b1 n (it _ fu) l m f.1 f.2.1 f.2.2 i t (ks.map (fun (q : Nat) => (q : Int))) (k : Int) = _
    generalize it (fun F (x : (List (Int × (Int × Int))) × (List Int) × (List ByteArray) × (List Bool) × (List Bool) × Int × ByteArray × (List Int) × Int) => camshaftref07_Stacks.b1 n F x.1 x.2.1 x.2.2.1 x.2.2.2.1 x.2.2.2.2.1 x.2.2.2.2.2.1 x.2.2.2.2.2.2.1 x.2.2.2.2.2.2.2.1 x.2.2.2.2.2.2.2.2) fu = F at ih ⊢
    have ha := hf.a
    have hb := hf.b
    have hc := hf.c
    unfold camshaftref07_Stacks.b1
    rcases Nat.lt_or_ge k ks.length with hlt | hge
    · have hd : ks.drop k = ks[k] :: ks.drop (k + 1) := List.drop_eq_getElem_cons hlt
      have hg : (ks.map (fun (q : Nat) => (q : Int))).getD k 0 = ((ks[k] : Nat) : Int) := by
        rw [List.getD_eq_getElem?_getD, List.getElem?_map, List.getElem?_eq_getElem hlt]
        rfl
      have hq : ks[k] < l.length := hks _ (List.getElem_mem _)
      rw [hd, List.foldl_cons]
      generalize ks[k] = q at hg hq ⊢
      have ih2 := ih (handI_ok hf q ht) (by omega) (by omega)
      rw [← ih2]
      simp only [List.length_map, Int.toNat_natCast, hg, next_ix (show k < 1000000 by omega)]
      rw [if_pos (decide_eq_true (by omega))]
      simp only [if_pos (in_ix hlt), if_pos (in_ix (show q < f.1.length by omega)), if_pos (in_ix (show q < f.2.1.length by omega)), if_pos (in_ix (show q < f.2.2.length by omega))]
      unfold handI neB
      simp only
      rcases Bool.eq_false_or_eq_true (f.2.2.getD q false) with h1 | h1
      · rw [h1, if_pos rfl, set_same h1 (by omega)]
        simp only [ite_self]
      · rw [h1, if_neg (by decide)]
        rcases Bool.eq_false_or_eq_true (f.2.1.getD q false) with h2 | h2
        · rw [h2, if_pos rfl, Bool.true_and]
          rcases Bool.eq_false_or_eq_true (!((f.1.getD q ByteArray.empty).toList == t.toList)) with h3 | h3
          · rw [h3, if_pos rfl]
          · rw [h3, if_neg (by decide), set_same h1 (by omega)]
        · rw [h2, if_neg (by decide), Bool.false_and, if_neg (by decide), set_same h1 (by omega)]
    · have : k = ks.length := by omega
      subst this
      rw [if_neg (by simp), List.drop_length]
      rfl
theorem nexts_is (n : Nat) {l : List Ins} {m h : List Int} (hF : Fine l m h) {i : Nat} (hi : i < l.length) : camshaftref07_nexts.f n l (i : Int) = some ((nextsI l i).map (fun (q : Nat) => (q : Int))) := by
  obtain ⟨l1, l2⟩ := hF.len
  have hjw := fun hj => jump_ix (by omega) hi (hF.right hi) hj
  unfold camshaftref07_nexts.f nextsI
  simp only [if_pos (in_ix hi), Int.toNat_natCast, next_ix (show i < 1000000 by omega)]
  unfold opAt
  by_cases h19 : (l.getD i (0, 0, 0)).1 = 19
  · rw [if_pos (show ((l.getD i (0, 0, 0)).1 == 19) = true by simpa only [beq_iff_eq] using h19), if_pos h19, hjw (.inl h19)]
    rfl
  · rw [if_neg (show ¬ ((l.getD i (0, 0, 0)).1 == 19) = true by simpa only [beq_iff_eq] using h19), if_neg h19]
    by_cases h20 : (l.getD i (0, 0, 0)).1 = 20
    · rw [if_pos (show ((l.getD i (0, 0, 0)).1 == 20) = true by simpa only [beq_iff_eq] using h20), if_pos h20, hjw (.inr h20)]
      rfl
    · rw [if_neg (show ¬ ((l.getD i (0, 0, 0)).1 == 20) = true by simpa only [beq_iff_eq] using h20), if_neg h20]
      by_cases h25 : (l.getD i (0, 0, 0)).1 = 25
      · rw [if_pos (show ((l.getD i (0, 0, 0)).1 == 25) = true by simpa only [beq_iff_eq] using h25), if_pos h25]
        rfl
      · rw [if_neg (show ¬ ((l.getD i (0, 0, 0)).1 == 25) = true by simpa only [beq_iff_eq] using h25), if_neg h25]
        rfl
theorem nexts_len (l : List Ins) (i : Nat) : (nextsI l i).length ≤ 2 := by
  unfold nextsI
  split
  · simp
  · split
    · simp
    · split <;> simp
theorem toList_comm (a b : ByteArray) : (a.toList == b.toList) = (b.toList == a.toList) := by
  rw [Bool.eq_iff_iff, beq_iff_eq, beq_iff_eq]
  exact eq_comm
theorem refstacks_j0 (n : Nat) {l : List Ins} {m h : List Int} (hF : Fine l m h) {f : Flow} (hf : FlowI l f) {i : Nat} (hi : i < l.length) :
    camshaftref07_Stacks.j0 n l m f.1 f.2.1 f.2.2 (i : Int) = some (if f.2.2.getD i false = true ∨ (opAt l i = 22 ∧ neB (f.1.getD (m.getD i 0).toNat ByteArray.empty) (f.1.getD i ByteArray.empty) = true) then .inl (([], 10, ()), ()) else .inr ((l, m, f.1, f.2.1, f.2.2, (i : Int), ()), ())) := by
  have ha := hf.a
  have hb := hf.b
  have hc := hf.c
  have hm : opAt l i = 22 → ∃ j : Nat, m.getD i 0 = (j : Int) ∧ j < l.length := fun h22 => by
    obtain ⟨k, k1, k2, _⟩ := hF.closed.cl i hi (.inl h22)
    exact ⟨k, k1, by omega⟩
  unfold camshaftref07_Stacks.j0 opAt
  simp only [Int.toNat_natCast]
  rw [if_pos (in_ix (by omega)), if_pos (in_ix hi)]
  rcases Bool.eq_false_or_eq_true (f.2.2.getD i false) with h2 | h2
  · rw [if_pos h2, if_pos (.inl h2)]
  · rw [if_neg (by rw [h2]; decide)]
    by_cases h22 : (l.getD i (0, 0, 0)).1 = 22
    · obtain ⟨j, j1, j2⟩ := hm h22
      rw [if_pos (show ((l.getD i (0, 0, 0)).1 == 22) = true by simpa only [beq_iff_eq] using h22), if_pos (in_ix (by omega)), if_pos (in_ix (by rw [hF.nest.hm]; exact hi))]
      simp only [j1, Int.toNat_natCast]
      rw [if_pos (in_ix (show j < f.1.length by omega)), toList_comm]
      rcases Bool.eq_false_or_eq_true (neB (f.1.getD j ByteArray.empty) (f.1.getD i ByteArray.empty)) with h3 | h3
      · rw [if_pos (show f.2.2.getD i false = true ∨ ((l.getD i (0, 0, 0)).1 = 22 ∧ neB (f.1.getD j ByteArray.empty) (f.1.getD i ByteArray.empty) = true) from .inr ⟨h22, h3⟩)]
        unfold neB at h3
        rw [if_pos h3]
      · rw [if_neg (show ¬ (f.2.2.getD i false = true ∨ ((l.getD i (0, 0, 0)).1 = 22 ∧ neB (f.1.getD j ByteArray.empty) (f.1.getD i ByteArray.empty) = true)) from fun h => by
          rcases h with h | h
          · rw [h2] at h; cases h
          · rw [h3] at h; cases h.2)]
        unfold neB at h3
        rw [if_neg (by rw [h3]; decide)]
    · rw [if_neg (show ¬ ((l.getD i (0, 0, 0)).1 == 22) = true by simpa only [beq_iff_eq] using h22), if_neg (fun h => h.elim (fun h => by rw [h2] at h; cases h) (fun h => h22 h.1))]
theorem ref_after (n : Nat) (hn : 3 < n) (hn2 : n < 1000000) {o A B : Int} (hr : rightI (o, A, B) = true) (hA : -9223372036854775808 ≤ A ∧ A ≤ 9223372036854775807) {s : ByteArray} (hs : s.size ≤ 16) {R : Type} (e9 e10 : Option R) (K : ByteArray → Option R) :
    ((camshaftref07_Takes.f n (o, A, B)).bind fun y17 => if decide (IntKind.wrap .i64 ((s.size : Int) - (y17.size : Int)) < 0) = true then e9 else if (decide (0 ≤ IntKind.wrap .i64 ((s.size : Int) - (y17.size : Int))) && decide (IntKind.wrap .i64 ((s.size : Int) - (y17.size : Int)) ≤ (s.size : Int))) = true then
      (camshaftref07_Takes.f n (o, A, B)).bind fun y18 => (camshaftref07_fits.f n (s.extract (IntKind.wrap .i64 ((s.size : Int) - (y17.size : Int))).toNat s.size) y18).bind fun y19 => if (!y19) = true then e10 else
        if (decide (0 ≤ IntKind.wrap .i64 ((s.size : Int) - (y17.size : Int))) && decide (IntKind.wrap .i64 ((s.size : Int) - (y17.size : Int)) ≤ (s.size : Int))) = true then
          (camshaftref07_Gives.f n (o, A, B) (s.extract (IntKind.wrap .i64 ((s.size : Int) - (y17.size : Int))).toNat s.size)).bind fun y20 =>
            if decide ((s.extract 0 (IntKind.wrap .i64 ((s.size : Int) - (y17.size : Int))).toNat).size + y20.size ≤ 140737488351232) = true then
              (if decide ((((s.extract 0 (IntKind.wrap .i64 ((s.size : Int) - (y17.size : Int))).toNat ++ y20).size : Nat) : Int) > 16) = true then e9 else K (s.extract 0 (IntKind.wrap .i64 ((s.size : Int) - (y17.size : Int))).toNat ++ y20)) else none
        else none
      else none) = if (afterI (o, A, B) s).2 = 9 then e9 else if (afterI (o, A, B) s).2 = 10 then e10 else K (afterI (o, A, B) s).1 := by
  have ht := takes_size (right_op hr)
  unfold afterI
  simp only [ref_takes_is n hr hA, Option.bind_some]
  by_cases hlt : s.size < (takesI o).size
  · rw [if_pos hlt, if_pos, if_pos rfl]
    rw [wrap_id (by omega) (by omega)]
    simp; omega
  · rw [if_neg hlt, cut_ix (by omega) (by omega), if_neg (by simp), if_pos (by simp), Int.toNat_natCast, reffits_is n _ _ (by omega) hn2, Option.bind_some]
    rcases Bool.eq_false_or_eq_true (fitsB (s.extract (s.size - (takesI o).size) s.size) (takesI o)) with hf | hf
    · rw [hf, if_neg (by decide), if_pos rfl, if_pos (by simp), ref_gives_is n hn hn2 hr hA hf, Option.bind_some]
      have hg := gives_size (o := o) (A := A) (t := s.extract (s.size - (takesI o).size) s.size) (by rw [ByteArray.size_extract]; omega)
      have hx : (s.extract 0 (s.size - (takesI o).size)).size ≤ 16 := by rw [ByteArray.size_extract]; omega
      rw [if_pos (decide_eq_true (by omega))]
      generalize s.extract 0 (s.size - (takesI o).size) ++ givesI o A (s.extract (s.size - (takesI o).size) s.size) = out
      by_cases hb : out.size > 16
      · rw [if_pos hb, if_pos (show decide ((out.size : Int) > 16) = true from decide_eq_true (by omega)), if_pos rfl]
      · rw [if_neg hb, if_neg (show ¬ decide ((out.size : Int) > 16) = true by simp only [decide_eq_true_eq]; omega)]
        rfl
    · rw [hf, if_pos (by decide)]
      rfl
theorem refstacks_step (n : Nat) (hn : 3 < n) (hn2 : n < 1000000) {l : List Ins} (hi0 : InR l) {m h : List Int} (hF : Fine l m h) (F : ((List (Int × (Int × Int))) × (List Int) × (List ByteArray) × (List Bool) × (List Bool) × Int) → Option (((((List ByteArray) × Int × Unit) × Unit) ⊕ (((List ByteArray) × Unit) × Unit)))) {f : Flow} (hf : FlowI l f) {i : Nat} (hi : i < l.length) :
    camshaftref07_Stacks.b2 n F l m f.1 f.2.1 f.2.2 (i : Int) = match flowStep l m i f with
      | .inl e => some (.inl (([], e, ()), ()))
      | .inr f' => F (l, m, f'.1, f'.2.1, f'.2.2, ((i + 1 : Nat) : Int)) := by
  obtain ⟨l1, l2⟩ := hF.len
  have ha := hf.a
  have hb := hf.b
  have hc := hf.c
  have hr := hF.right hi
  have hrA : -9223372036854775808 ≤ (l.getD i (0, 0, 0)).2.1 ∧ (l.getD i (0, 0, 0)).2.1 ≤ 9223372036854775807 := by
    rw [getD_in hi]
    exact hi0 _ (List.getElem_mem _)
  unfold camshaftref07_Stacks.b2
  simp only [Int.toNat_natCast]
  rw [if_pos (decide_eq_true (by omega)), if_pos (in_ix (by omega)), refstacks_j0 n hF hf hi, Option.bind_some]
  unfold flowStep
  rcases Bool.eq_false_or_eq_true (f.2.1.getD i false) with h1 | h1
  · rw [if_neg (show ¬ (!f.2.1.getD i false) = true by rw [h1]; decide), if_neg (show ¬ f.2.1.getD i false = false by rw [h1]; decide)]
    by_cases h2 : f.2.2.getD i false = true
    · rw [if_pos (.inl h2), if_pos h2]
      rfl
    · rw [if_neg h2]
      by_cases h3 : opAt l i = 22 ∧ neB (f.1.getD (m.getD i 0).toNat ByteArray.empty) (f.1.getD i ByteArray.empty) = true
      · rw [if_pos (.inr h3), if_pos h3]
        rfl
      · rw [if_neg (fun h => h.elim h2 h3), if_neg h3]
        simp only [Sum.elim_inr]
        have hs := hf.s i
        have key : (afterI (l.getD i (0, 0, 0)) (f.1.getD i ByteArray.empty)).1.size ≤ 16 := after_size _ _
        have kerr := after_err (l.getD i (0, 0, 0)) (f.1.getD i ByteArray.empty)
        have hx : ∃ o A B, l.getD i (0, 0, 0) = (o, A, B) := ⟨_, _, _, rfl⟩
        obtain ⟨o, A, B, hx⟩ := hx
        rw [hx] at hr hrA key kerr
        simp only [hx, Int.toNat_natCast, if_pos (in_ix (show i < f.1.length by omega)), if_pos (in_ix hi)]
        refine (ref_after n hn hn2 hr hrA hs (some (.inl (([], 9, ()), ()))) (some (.inl (([], 10, ()), ()))) (fun z => (camshaftref07_nexts.f n l (i : Int)).bind fun y21 => ((camshaftref07_Stacks.b1.l n (l, m, f.1, f.2.1, f.2.2, (i : Int), z, y21, 0)).bind fun y22 => (F (y22.1, y22.2.1, y22.2.2.1, y22.2.2.2.1, y22.2.2.2.2.1, (IntKind.wrap .i64 (y22.2.2.2.2.2 + 1))))))).trans ?_
        generalize afterI (o, A, B) (f.1.getD i ByteArray.empty) = te at key kerr ⊢
        obtain ⟨t, e⟩ := te
        simp only at key kerr ⊢
        rcases kerr with rfl | rfl | rfl
        · rw [if_neg (by decide), if_neg (by decide), if_neg (by decide), nexts_is n hF hi, Option.bind_some]
          have hb1 := refstacks_b1 n (l := l) (by omega) (m := m) key (ks := nextsI l i) (hF.next hi) (by have := nexts_len l i; omega) (i : Int) n 0 hf (Nat.zero_le _) (by have := nexts_len l i; omega)
          rw [show ((0 : Nat) : Int) = 0 from rfl] at hb1
          unfold camshaftref07_Stacks.b1.l
          rw [hb1, Option.bind_some]
          simp only [List.drop_zero]
          rw [next_ix (by omega)]
        · rfl
        · rfl
  · rw [if_pos (show (!f.2.1.getD i false) = true by rw [h1]; rfl), if_pos h1]
theorem refstacks_loop (n : Nat) (hn : 3 < n) (hn2 : n < 1000000) {l : List Ins} (hi0 : InR l) {m h : List Int} (hF : Fine l m h) : ∀ (f i : Nat) {s : Flow}, FlowI l s → i ≤ l.length → l.length < f + i →
    it (fun F (x : (List (Int × (Int × Int))) × (List Int) × (List ByteArray) × (List Bool) × (List Bool) × Int) => camshaftref07_Stacks.b2 n F x.1 x.2.1 x.2.2.1 x.2.2.2.1 x.2.2.2.2.1 x.2.2.2.2.2) f (l, m, s.1, s.2.1, s.2.2, (i : Int)) = match stacksS l m (l.length - i) i s with
      | .inl z => some (.inl (([], z, ()), ()))
      | .inr s' => some (.inr ((s'.1, ()), ()))
  | 0, i, s, hs, hi, hf => by omega
  | f + 1, i, s, hs, hi, hf => by
    have ih := fun {s : Flow} => refstacks_loop n hn hn2 hi0 hF f (i + 1) (s := s)
    show camshaftref07_Stacks.b2 n (it _ f) l m s.1 s.2.1 s.2.2 (i : Int) = _
    generalize it (fun F (x : (List (Int × (Int × Int))) × (List Int) × (List ByteArray) × (List Bool) × (List Bool) × Int) => camshaftref07_Stacks.b2 n F x.1 x.2.1 x.2.2.1 x.2.2.2.1 x.2.2.2.2.1 x.2.2.2.2.2) f = F at ih ⊢
    rcases Nat.lt_or_ge i l.length with hlt | hge
    · rw [refstacks_step n hn hn2 hi0 hF F hs hlt, show l.length - i = (l.length - (i + 1)) + 1 by omega]
      simp only [stacksS]
      cases hq : flowStep l m i s with
      | inl e => rfl
      | inr s' => exact ih (flowStep_ok hs hq) (by omega) (by omega)
    · have : i = l.length := by omega
      subst this
      unfold camshaftref07_Stacks.b2
      rw [if_neg (by simp), Nat.sub_self]
      rfl
theorem ref_stacks_is (n : Nat) (l : List Ins) (hi : InR l) (hl : l.length < n) (hn3 : 3 < n) (hn : n < 1000000) : ∃ o, camshaftref07_Stacks.f n l = some (o, stacksI l) := by
  unfold camshaftref07_Stacks.f stacksI
  rw [ref_whole_is n l hi hl hn, Option.bind_some]
  by_cases hw : wholeI l = 0
  · have hF := whole_fine hw
    have hI := flow0_ok l
    obtain ⟨l1, l2⟩ := hF.len
    have h := refstacks_loop n hn3 hn hi hF n 0 hI (Nat.zero_le _) (by omega)
    have c1 : (decide (0 ≤ (l.length : Int)) && ((l.length : Int) == (l.length : Int)) && decide ((l.length : Int) * (16 : Int) ≤ 140737488355328) && decide (1 ≤ 16)) = true := by simp; omega
    have c2 : (decide (0 ≤ (l.length : Int)) && ((l.length : Int) == (l.length : Int)) && decide ((l.length : Int) * (1 : Int) ≤ 140737488355328) && decide (1 ≤ 1)) = true := by simp; omega
    rw [if_neg (fun h => (bne_iff_ne.1 h) hw), ref_match_is n l hi hl hn, Option.bind_some, if_pos c1, if_pos c2, if_pos c2, if_neg (show ¬ (wholeI l ≠ 0) from fun h => h hw), Int.toNat_natCast, if_pos (by simp; omega)]
    unfold camshaftref07_Stacks.b2.l
    rw [Nat.sub_zero, show ((0 : Nat) : Int) = 0 from rfl] at h
    refine Exists.imp (fun o ho => (congrArg (fun x => Option.bind x _) h).trans ho) ?_
    cases hq : stacksS l (scanI l).1 l.length 0 (flow0 l) with
    | inl z => exact ⟨[], rfl⟩
    | inr s' => exact ⟨s'.1, rfl⟩
  · rw [if_pos (by simp only [bne_iff_ne, ne_eq]; exact hw), if_pos hw]
    exact ⟨_, rfl⟩
end Go.Proofs.Dk

/- Plain: the steps of ways. -/
namespace Go.Proofs.Dk
open Go
set_option maxRecDepth 100000
set_option linter.unusedVariables false
set_option linter.unusedSimpArgs false
theorem right21 {A B : Int} (h : rightI (21, A, B) = true) : 1 ≤ A ∧ A ≤ 1000 := by
  have h1 := (right_is 0 (21, A, B)).symm.trans (opR21 0 A B)
  rw [h] at h1
  by_cases h2 : 1 ≤ A
  · by_cases h3 : A ≤ 1000
    · exact ⟨h2, h3⟩
    · rw [if_pos (decide_eq_true h2), if_neg (by simpa using h3)] at h1
      cases h1
  · rw [if_neg (by simpa using h2)] at h1
    cases h1
def addI (a b : Int) : Int := if 1048577 < a + b then 1048577 else a + b
def loopI (w A : Int) : Int := if addI w 1 = 1048577 then 1048577 else addI 1 (A * addI w 1)
def mN (m : List Int) (i : Nat) : Nat := (m.getD i 0).toNat
def costI (W : Nat → Nat → Int) (l : List Ins) (m : List Int) (i : Nat) : Int := if opAt l i = 21 then loopI (W (i + 1) (mN m i)) (argA l i) else 1
def hopsI (l : List Ins) (m : List Int) (i : Nat) : List Nat := if opAt l i = 21 then [mN m i + 1] else if opAt l i = 19 then [jumpTo l i] else if opAt l i = 20 then [jumpTo l i, i + 1] else [i + 1]
def putI (b : Int → Int → Int) (D : Nat → Int) (k : Nat) (v : Int) : Nat → Int := fun j => if j = k then (if D k = -1 then v else b (D k) v) else D j
def stepW (b : Int → Int → Int) (W : Nat → Nat → Int) (l : List Ins) (m : List Int) (i : Nat) (D : Nat → Int) : Nat → Int :=
  if D i = -1 then D else (hopsI l m i).foldl (fun g k => putI b g k (addI (D i) (costI W l m i))) D
def runW (b : Int → Int → Int) (W : Nat → Nat → Int) (l : List Ins) (m : List Int) : Nat → Nat → (Nat → Int) → Nat → Int
  | 0, _, D => D
  | r + 1, i, D => runW b W l m r (i + 1) (stepW b W l m i D)
def startW (a : Nat) : Nat → Int := fun j => if j = a then 0 else -1
def wayF (b : Int → Int → Int) (l : List Ins) (m : List Int) : Nat → Nat → Nat → Int
  | 0, _, _ => 0
  | f + 1, a, z => runW b (wayF b l m f) l m (z - a) a (startW a) z
structure Reg (l : List Ins) (m : List Int) (a z : Nat) : Prop where
  le : a ≤ z
  lt : z < l.length
  loop : ∀ i, a ≤ i → i < z → isOpen l i = true → ∃ j : Nat, m.getD i 0 = (j : Int) ∧ i < j ∧ j < z
  jump : ∀ i, a ≤ i → i < z → opAt l i = 19 ∨ opAt l i = 20 → jumpTo l i ≤ z
theorem Fine.reg {l : List Ins} {m h : List Int} (hF : Fine l m h) {p : Nat} (hp : p < l.length) (ho : isOpen l p = true) : Reg l m (p + 1) (mN m p) := by
  obtain ⟨j, j1, j2, j3⟩ := hF.nest.open_ p hp ho
  have hj : mN m p = j := by unfold mN; rw [j1]; rfl
  rw [hj]
  refine ⟨by omega, j3, fun i h1 h2 h3 => ?_, fun i h1 h2 h3 => ?_⟩
  · obtain ⟨q, q1, q2, q3⟩ := hF.nest.open_ i (by omega) h3
    obtain ⟨q', e1, e2⟩ := hF.nest.cross p i j (by omega) h2 hp ho h3 j1
    exact ⟨q, q1, q2, by omega⟩
  · obtain ⟨k1, k2⟩ := hF.jump (show i < l.length by omega) h3
    rcases Nat.lt_or_ge j (jumpTo l i) with hlt | hge
    · exfalso
      have e1 : enc l m p i = true := by
        unfold enc
        rw [ho, j1]
        simp; omega
      have e2 : enc l m p (jumpTo l i) = false := by
        unfold enc
        rw [ho, j1]
        simp; omega
      rcases home_cases l m i with hh | ⟨q, hh⟩
      · rw [enc_none hh p] at e1; cases e1
      · obtain ⟨_, _, x3⟩ := enc_home hF.nest (show i < l.length by omega) hh
        obtain ⟨_, _, y3⟩ := enc_home hF.nest k1 (k2.trans hh)
        rw [y3 p, ← x3 p, e1] at e2
        cases e2
    · exact hge
theorem Fine.all {l : List Ins} {m h : List Int} (hF : Fine l m h) : Reg l m 0 (l.length - 1) := by
  obtain ⟨l1, l2⟩ := hF.len
  refine ⟨Nat.zero_le _, by omega, fun i h1 h2 h3 => ?_, fun i h1 h2 h3 => ?_⟩
  · obtain ⟨j, j1, j2, j3, j4, j5⟩ := hF.closed.op_ i (by omega) h3
    refine ⟨j, j1, j2, ?_⟩
    have : j ≠ l.length - 1 := fun e => by
      subst e
      have h5 := hF.last
      have h6 := ends_op (l.getD i (0, 0, 0))
      unfold opAt at h5
      rw [j4] at h5
      omega
    omega
  · have := (hF.jump (show i < l.length by omega) h3).1
    omega
def StepsI (v : Int) : Prop := v = -1 ∨ (0 ≤ v ∧ v ≤ 1048577)
theorem addI_ok {a b : Int} (h1 : 0 ≤ a) (h2 : 0 ≤ b) : 0 ≤ addI a b ∧ addI a b ≤ 1048577 := by
  unfold addI
  split <;> omega
theorem loopI_ok {w A : Int} (hw : StepsI w) (hA : 1 ≤ A ∧ A ≤ 1000) : 0 ≤ loopI w A ∧ loopI w A ≤ 1048577 := by
  have h1 : 0 ≤ addI w 1 ∧ addI w 1 ≤ 1048577 := by
    rcases hw with rfl | h
    · decide
    · exact addI_ok h.1 (by decide)
  unfold loopI
  split
  · omega
  · exact addI_ok (by decide) (Int.mul_nonneg (by omega) h1.1)
def Bet (b : Int → Int → Int) : Prop := ∀ x y, b x y = x ∨ b x y = y
theorem putI_ok {b : Int → Int → Int} (hb : Bet b) {D : Nat → Int} (hD : ∀ k, StepsI (D k)) (k : Nat) {v : Int} (hv : 0 ≤ v ∧ v ≤ 1048577) : ∀ j, StepsI (putI b D k v j) := by
  intro j
  unfold putI
  split
  · split
    · exact .inr hv
    · rcases hb (D k) v with h | h
      · rw [h]; exact hD k
      · rw [h]; exact .inr hv
  · exact hD j
theorem puts_ok {b : Int → Int → Int} (hb : Bet b) {v : Int} (hv : 0 ≤ v ∧ v ≤ 1048577) : ∀ (ks : List Nat) {D : Nat → Int}, (∀ k, StepsI (D k)) → ∀ k, StepsI (ks.foldl (fun g k => putI b g k v) D k)
  | [], D, hD => hD
  | k :: ks, D, hD => puts_ok hb hv ks (putI_ok hb hD k hv)
theorem costI_ok {W : Nat → Nat → Int} {l : List Ins} {m : List Int} {i : Nat} (hr : rightI (l.getD i (0, 0, 0)) = true) (hW : opAt l i = 21 → StepsI (W (i + 1) (mN m i))) : 0 ≤ costI W l m i ∧ costI W l m i ≤ 1048577 := by
  unfold costI
  split
  · rename_i h
    refine loopI_ok (hW h) ?_
    unfold argA
    unfold opAt at h
    generalize l.getD i (0, 0, 0) = x at *
    obtain ⟨o, A, B⟩ := x
    simp only at h
    subst h
    exact right21 hr
  · omega
theorem stepW_ok {b : Int → Int → Int} (hb : Bet b) {W : Nat → Nat → Int} {l : List Ins} {m : List Int} {i : Nat} {D : Nat → Int} (hD : ∀ k, StepsI (D k)) (hr : rightI (l.getD i (0, 0, 0)) = true) (hW : opAt l i = 21 → StepsI (W (i + 1) (mN m i))) : ∀ k, StepsI (stepW b W l m i D k) := by
  unfold stepW
  split
  · exact hD
  · rename_i h
    have hi : 0 ≤ D i := by
      rcases hD i with h1 | h1
      · exact absurd h1 h
      · exact h1.1
    exact puts_ok hb (addI_ok hi (costI_ok hr hW).1) _ hD
theorem runW_ok {b : Int → Int → Int} (hb : Bet b) {W : Nat → Nat → Int} {l : List Ins} {m : List Int} (hr : ∀ i, i < l.length → rightI (l.getD i (0, 0, 0)) = true) : ∀ (r i : Nat) {D : Nat → Int}, (∀ k, StepsI (D k)) → r + i ≤ l.length → (∀ k, i ≤ k → k < r + i → opAt l k = 21 → StepsI (W (k + 1) (mN m k))) → ∀ k, StepsI (runW b W l m r i D k)
  | 0, i, D, hD, hi, hW => hD
  | r + 1, i, D, hD, hi, hW => runW_ok hb hr r (i + 1) (stepW_ok hb hD (hr i (by omega)) (hW i (Nat.le_refl _) (by omega))) (by omega) fun k h1 h2 => hW k (by omega) (by omega)
theorem startW_ok (a : Nat) : ∀ k, StepsI (startW a k) := fun k => by
  unfold startW
  split
  · exact .inr (by decide)
  · exact .inl rfl
theorem wayF_ok {b : Int → Int → Int} (hb : Bet b) {l : List Ins} {m h : List Int} (hF : Fine l m h) : ∀ (f : Nat) {a z : Nat}, Reg l m a z → StepsI (wayF b l m f a z)
  | 0, a, z, hR => .inr (by show 0 ≤ (0 : Int) ∧ (0 : Int) ≤ 1048577; decide)
  | f + 1, a, z, hR => by
    have h1 := hR.le
    have h2 := hR.lt
    exact runW_ok hb (fun i hi => hF.right hi) (z - a) a (startW_ok a) (by omega) (fun k k1 k2 k3 => wayF_ok hb hF f (hF.reg (by omega) (isOpen_iff.2 (.inl k3)))) z
end Go.Proofs.Dk

/- Plain: the steps of ways, by the program. -/
namespace Go.Proofs.Dk
open Go
set_option maxRecDepth 100000
set_option linter.unusedVariables false
set_option linter.unusedSimpArgs false
def bM (x y : Int) : Int := if y > x then y else x
def bL (x y : Int) : Int := if y < x then y else x
theorem bM_bet : Bet bM := fun x y => by
  unfold bM
  split
  · exact .inr rfl
  · exact .inl rfl
theorem bL_bet : Bet bL := fun x y => by
  unfold bL
  split
  · exact .inr rfl
  · exact .inl rfl
theorem costadd_is (n : Nat) {a b : Int} (h1 : -1 ≤ a) (h2 : a ≤ 1048577) (h3 : -1 ≤ b) (h4 : b ≤ 1048577) : cost_add.f n a b = some (addI a b) := by
  unfold cost_add.f addI
  rw [wrap_id (by omega) (by omega)]
structure LD (d : List Int) (D : Nat → Int) (a z : Nat) : Prop where
  len : d.length = z - a + 1
  at_ : ∀ k, a ≤ k → k ≤ z → d.getD (k - a) 0 = D k
theorem LD.put {d : List Int} {D : Nat → Int} {a z : Nat} (h : LD d D a z) (b : Int → Int → Int) {k : Nat} (hk : a ≤ k) (hk2 : k ≤ z) (v : Int) : LD (d.set (k - a) (if d.getD (k - a) 0 = -1 then v else b (d.getD (k - a) 0) v)) (putI b D k v) a z := by
  have hl := h.len
  refine ⟨by rw [List.length_set, hl], fun j h1 h2 => ?_⟩
  rw [getD_set (by omega), h.at_ k hk hk2]
  unfold putI
  by_cases e : j = k
  · subst e
    rw [if_pos rfl, if_pos rfl]
  · rw [if_neg (by omega), if_neg e, h.at_ j h1 h2]

theorem cost_most_is (n : Nat) (x y : Int) : cost_most.f n x y = some (bM x y) := rfl
theorem most_hand (n : Nat) {d : List Int} {k : Nat} (hk : k < d.length) (v : Int) {R : Type} (K : List Int → Option R) :
    (if (decide (0 ≤ (k : Int)) && decide ((k : Int) < (d.length : Int))) = true then (if (d.getD k 0 != (-1)) = true then ((cost_most.f n (d.getD k 0) v).bind fun y => if (decide (0 ≤ (k : Int)) && decide ((k : Int) < (d.length : Int))) = true then K (d.set k y) else none) else (if (decide (0 ≤ (k : Int)) && decide ((k : Int) < (d.length : Int))) = true then K (d.set k v) else none)) else none) = K (d.set k (if d.getD k 0 = -1 then v else bM (d.getD k 0) v)) := by
  simp only [if_pos (in_ix hk), cost_most_is, Option.bind_some]
  by_cases h : d.getD k 0 = -1
  · rw [if_neg (fun h2 => (bne_iff_ne.1 h2) h), if_pos h]
  · rw [if_pos (bne_iff_ne.2 h), if_neg h]
theorem cost_counter_loop_most_is (n : Nat) (W : ((((List (Int × (Int × Int))) × (List Int)) × Int × Int × Unit) × Unit) → Option Int) {l : List Ins} {m : List Int} (hl : l.length < 1000000) (hm : m.length = l.length) {i : Nat} (hi : i < l.length) {w : Int} (hj : m.getD i 0 = ((mN m i : Nat) : Int)) (hW : W (((l, m), ((i + 1 : Nat) : Int), ((mN m i : Nat) : Int), ()), ()) = some w) (hw : StepsI w) (hA : 1 ≤ argA l i ∧ argA l i ≤ 1000) : cost_counter_loop_most.f n W (l, m) (i : Int) = some (loopI w (argA l i)) := by
  unfold cost_counter_loop_most.f loopI
  simp only [Int.toNat_natCast, next_ix (show i < 1000000 by omega), if_pos (in_ix hi), if_pos (in_ix (show i < m.length by omega)), hj, hW, Option.bind_some]
  have hw2 : -1 ≤ w ∧ w ≤ 1048577 := by rcases hw with rfl | h <;> omega
  rw [costadd_is n hw2.1 hw2.2 (by decide) (by decide), Option.bind_some]
  have h1 : 0 ≤ addI w 1 ∧ addI w 1 ≤ 1048577 := by
    rcases hw with rfl | h
    · decide
    · exact addI_ok h.1 (by decide)
  generalize addI w 1 = x at h1 ⊢
  by_cases hx : x = 1048577
  · rw [if_pos (by simpa only [beq_iff_eq] using hx), if_pos hx]
  · rw [if_neg (by simpa only [beq_iff_eq] using hx), if_neg hx]
    unfold argA at hA ⊢
    generalize (l.getD i (0, 0, 0)).2.1 = A at hA ⊢
    have hb : 0 ≤ A * x ∧ A * x ≤ 1000 * 1048577 := ⟨Int.mul_nonneg (by omega) h1.1, Int.mul_le_mul hA.2 h1.2 h1.1 (by decide)⟩
    rw [wrap_id (e := A * x) (by omega) (by omega), wrap_id (by omega) (by omega)]
    rfl
theorem most_j1 (n : Nat) (W : ((((List (Int × (Int × Int))) × (List Int)) × Int × Int × Unit) × Unit) → Option Int) {l : List Ins} {m h : List Int} (hF : Fine l m h) {Wp : Nat → Nat → Int} {a z : Nat} (hR : Reg l m a z) {i : Nat} (hi : a ≤ i) (hi2 : i < z) (hW : opAt l i = 21 → W (((l, m), ((i + 1 : Nat) : Int), ((mN m i : Nat) : Int), ()), ()) = some (Wp (i + 1) (mN m i)) ∧ StepsI (Wp (i + 1) (mN m i))) {d : List Int} {D : Nat → Int} (hL : LD d D a z) (hD : ∀ k, StepsI (D k)) (zz : Int) :
    ∃ d', LD d' (stepW bM Wp l m i D) a z ∧ cost_counter_way_most.j1 n W zz (i : Int) l m (a : Int) d = some (zz, (i : Int), l, m, (a : Int), d') := by
  obtain ⟨l1, l2⟩ := hF.len
  have hlt := hR.lt
  have hdl := hL.len
  have hat := hL.at_ i hi (by omega)
  have hr := hF.right (show i < l.length by omega)
  have hm := hF.nest.hm
  unfold cost_counter_way_most.j1
  simp only [cut_ix hi (show i < 1000000 by omega), Int.toNat_natCast, next_ix (show i < 1000000 by omega), if_pos (in_ix (show i < l.length by omega)), if_pos (in_ix (show i < m.length by omega)), if_pos (in_ix (show i - a < d.length by omega)), cut_ix (show a ≤ i + 1 by omega) (show i + 1 < 1000000 by omega), hat]
  by_cases hn : D i = -1
  · refine ⟨d, ?_, ?_⟩
    · unfold stepW
      rw [if_pos hn]
      exact hL
    · rw [if_pos (by simpa only [beq_iff_eq] using hn)]
  · rw [if_neg (by simpa only [beq_iff_eq] using hn)]
    have hDi : 0 ≤ D i ∧ D i ≤ 1048577 := by
      rcases hD i with h1 | h1
      · exact absurd h1 hn
      · exact h1
    by_cases h21 : (l.getD i (0, 0, 0)).1 = 21
    · rw [if_pos (show ((l.getD i (0, 0, 0)).1 == 21) = true by simpa only [beq_iff_eq] using h21)]
      obtain ⟨j, j1, j2, j3⟩ := hR.loop i hi hi2 (isOpen_iff.2 (.inl h21))
      have hj : mN m i = j := by unfold mN; rw [j1]; rfl
      have hA : 1 ≤ argA l i ∧ argA l i ≤ 1000 := by
        unfold argA
        generalize l.getD i (0, 0, 0) = x at *
        obtain ⟨o, A, B⟩ := x
        simp only at h21
        subst h21
        exact right21 hr
      obtain ⟨w1, w2⟩ := hW h21
      have hc : costI Wp l m i = loopI (Wp (i + 1) (mN m i)) (argA l i) := by unfold costI; rw [if_pos h21]
      have hlo := loopI_ok w2 hA
      rw [cost_counter_loop_most_is n W (by omega) hm (by omega) (by rw [hj]; exact j1) w1 w2 hA, Option.bind_some, ← hc]
      rw [← hc] at hlo
      rw [costadd_is n (by omega) hDi.2 (by omega) hlo.2, Option.bind_some]
      simp only [j1, next_ix (show j < 1000000 by omega), cut_ix (show a ≤ j + 1 by omega) (show j + 1 < 1000000 by omega), Int.toNat_natCast]
      refine ⟨_, ?_, most_hand n (show j + 1 - a < d.length by omega) (addI (D i) (costI Wp l m i)) fun d' => some (zz, (i : Int), l, m, (a : Int), d')⟩
      have := hL.put bM (show a ≤ j + 1 by omega) (show j + 1 ≤ z by omega) (addI (D i) (costI Wp l m i))
      unfold stepW hopsI
      rw [if_neg hn, if_pos h21, hj]
      exact this
    · rw [if_neg (show ¬ ((l.getD i (0, 0, 0)).1 == 21) = true by simpa only [beq_iff_eq] using h21)]
      have hc : costI Wp l m i = 1 := by unfold costI; rw [if_neg h21]
      rw [costadd_is n (by omega) hDi.2 (by decide) (by decide)]
      simp only [Option.bind_some]
      by_cases h19 : (l.getD i (0, 0, 0)).1 = 19
      · rw [if_pos (show ((l.getD i (0, 0, 0)).1 == 19) = true by simpa only [beq_iff_eq] using h19)]
        have hjt := hR.jump i hi hi2 (.inl h19)
        have hji : i < jumpTo l i := by unfold jumpTo; omega
        simp only [jump_ix (show l.length < 1000000 by omega) (show i < l.length by omega) hr (.inl h19), cut_ix (show a ≤ jumpTo l i by omega) (show jumpTo l i < 1000000 by omega), Int.toNat_natCast]
        refine ⟨_, ?_, most_hand n (show jumpTo l i - a < d.length by omega) (addI (D i) 1) fun d' => some (zz, (i : Int), l, m, (a : Int), d')⟩
        have := hL.put bM (show a ≤ jumpTo l i by omega) hjt (addI (D i) 1)
        unfold stepW hopsI
        rw [if_neg hn, if_neg h21, if_pos h19, hc]
        exact this
      · rw [if_neg (show ¬ ((l.getD i (0, 0, 0)).1 == 19) = true by simpa only [beq_iff_eq] using h19)]
        by_cases h20 : (l.getD i (0, 0, 0)).1 = 20
        · rw [if_pos (show ((l.getD i (0, 0, 0)).1 == 20) = true by simpa only [beq_iff_eq] using h20)]
          have hjt := hR.jump i hi hi2 (.inr h20)
          have hji : i < jumpTo l i := by unfold jumpTo; omega
          simp only [jump_ix (show l.length < 1000000 by omega) (show i < l.length by omega) hr (.inr h20), cut_ix (show a ≤ jumpTo l i by omega) (show jumpTo l i < 1000000 by omega), Int.toNat_natCast]
          have h1 := hL.put bM (show a ≤ jumpTo l i by omega) hjt (addI (D i) 1)
          have h2 := h1.put bM (show a ≤ i + 1 by omega) (show i + 1 ≤ z by omega) (addI (D i) 1)
          refine ⟨_, ?_, (most_hand n (show jumpTo l i - a < d.length by omega) (addI (D i) 1) fun d1 => (if (decide (0 ≤ ((i + 1 - a : Nat) : Int)) && decide (((i + 1 - a : Nat) : Int) < (d1.length : Int))) = true then (if (d1.getD (i + 1 - a) 0 != (-1)) = true then ((cost_most.f n (d1.getD (i + 1 - a) 0) (addI (D i) 1)).bind fun y => if (decide (0 ≤ ((i + 1 - a : Nat) : Int)) && decide (((i + 1 - a : Nat) : Int) < (d1.length : Int))) = true then some (zz, (i : Int), l, m, (a : Int), d1.set (i + 1 - a) y) else none) else (if (decide (0 ≤ ((i + 1 - a : Nat) : Int)) && decide (((i + 1 - a : Nat) : Int) < (d1.length : Int))) = true then some (zz, (i : Int), l, m, (a : Int), d1.set (i + 1 - a) (addI (D i) 1)) else none)) else none)).trans (most_hand n (by rw [List.length_set]; omega) (addI (D i) 1) fun d' => some (zz, (i : Int), l, m, (a : Int), d'))⟩
          unfold stepW hopsI
          rw [if_neg hn, if_neg h21, if_neg h19, if_pos h20, hc]
          exact h2
        · rw [if_neg (show ¬ ((l.getD i (0, 0, 0)).1 == 20) = true by simpa only [beq_iff_eq] using h20)]
          refine ⟨_, ?_, most_hand n (show i + 1 - a < d.length by omega) (addI (D i) 1) fun d' => some (zz, (i : Int), l, m, (a : Int), d')⟩
          have := hL.put bM (show a ≤ i + 1 by omega) (show i + 1 ≤ z by omega) (addI (D i) 1)
          unfold stepW hopsI
          rw [if_neg hn, if_neg h21, if_neg h19, if_neg h20, hc]
          exact this

theorem cost_Sections_1_is (n : Nat) (x y : Int) : cost_Sections_1.f n x y = some (bM x y) := rfl
theorem sect_hand (n : Nat) {d : List Int} {k : Nat} (hk : k < d.length) (v : Int) {R : Type} (K : List Int → Option R) :
    (if (decide (0 ≤ (k : Int)) && decide ((k : Int) < (d.length : Int))) = true then (if (d.getD k 0 != (-1)) = true then ((cost_Sections_1.f n (d.getD k 0) v).bind fun y => if (decide (0 ≤ (k : Int)) && decide ((k : Int) < (d.length : Int))) = true then K (d.set k y) else none) else (if (decide (0 ≤ (k : Int)) && decide ((k : Int) < (d.length : Int))) = true then K (d.set k v) else none)) else none) = K (d.set k (if d.getD k 0 = -1 then v else bM (d.getD k 0) v)) := by
  simp only [if_pos (in_ix hk), cost_Sections_1_is, Option.bind_some]
  by_cases h : d.getD k 0 = -1
  · rw [if_neg (fun h2 => (bne_iff_ne.1 h2) h), if_pos h]
  · rw [if_pos (bne_iff_ne.2 h), if_neg h]
theorem cost_counter_loop_1_is (n : Nat) (W : ((((List (Int × (Int × Int))) × (List Int)) × Int × Int × Unit) × Unit) → Option Int) {l : List Ins} {m : List Int} (hl : l.length < 1000000) (hm : m.length = l.length) {i : Nat} (hi : i < l.length) {w : Int} (hj : m.getD i 0 = ((mN m i : Nat) : Int)) (hW : W (((l, m), ((i + 1 : Nat) : Int), ((mN m i : Nat) : Int), ()), ()) = some w) (hw : StepsI w) (hA : 1 ≤ argA l i ∧ argA l i ≤ 1000) : cost_counter_loop_1.f n W (l, m) (i : Int) = some (loopI w (argA l i)) := by
  unfold cost_counter_loop_1.f loopI
  simp only [Int.toNat_natCast, next_ix (show i < 1000000 by omega), if_pos (in_ix hi), if_pos (in_ix (show i < m.length by omega)), hj, hW, Option.bind_some]
  have hw2 : -1 ≤ w ∧ w ≤ 1048577 := by rcases hw with rfl | h <;> omega
  rw [costadd_is n hw2.1 hw2.2 (by decide) (by decide), Option.bind_some]
  have h1 : 0 ≤ addI w 1 ∧ addI w 1 ≤ 1048577 := by
    rcases hw with rfl | h
    · decide
    · exact addI_ok h.1 (by decide)
  generalize addI w 1 = x at h1 ⊢
  by_cases hx : x = 1048577
  · rw [if_pos (by simpa only [beq_iff_eq] using hx), if_pos hx]
  · rw [if_neg (by simpa only [beq_iff_eq] using hx), if_neg hx]
    unfold argA at hA ⊢
    generalize (l.getD i (0, 0, 0)).2.1 = A at hA ⊢
    have hb : 0 ≤ A * x ∧ A * x ≤ 1000 * 1048577 := ⟨Int.mul_nonneg (by omega) h1.1, Int.mul_le_mul hA.2 h1.2 h1.1 (by decide)⟩
    rw [wrap_id (e := A * x) (by omega) (by omega), wrap_id (by omega) (by omega)]
    rfl
theorem sect_j1 (n : Nat) (W : ((((List (Int × (Int × Int))) × (List Int)) × Int × Int × Unit) × Unit) → Option Int) {l : List Ins} {m h : List Int} (hF : Fine l m h) {Wp : Nat → Nat → Int} {a z : Nat} (hR : Reg l m a z) {i : Nat} (hi : a ≤ i) (hi2 : i < z) (hW : opAt l i = 21 → W (((l, m), ((i + 1 : Nat) : Int), ((mN m i : Nat) : Int), ()), ()) = some (Wp (i + 1) (mN m i)) ∧ StepsI (Wp (i + 1) (mN m i))) {d : List Int} {D : Nat → Int} (hL : LD d D a z) (hD : ∀ k, StepsI (D k)) (zz : Int) :
    ∃ d', LD d' (stepW bM Wp l m i D) a z ∧ cost_counter_way_1.j1 n W zz (i : Int) l m (a : Int) d = some (zz, (i : Int), l, m, (a : Int), d') := by
  obtain ⟨l1, l2⟩ := hF.len
  have hlt := hR.lt
  have hdl := hL.len
  have hat := hL.at_ i hi (by omega)
  have hr := hF.right (show i < l.length by omega)
  have hm := hF.nest.hm
  unfold cost_counter_way_1.j1
  simp only [cut_ix hi (show i < 1000000 by omega), Int.toNat_natCast, next_ix (show i < 1000000 by omega), if_pos (in_ix (show i < l.length by omega)), if_pos (in_ix (show i < m.length by omega)), if_pos (in_ix (show i - a < d.length by omega)), cut_ix (show a ≤ i + 1 by omega) (show i + 1 < 1000000 by omega), hat]
  by_cases hn : D i = -1
  · refine ⟨d, ?_, ?_⟩
    · unfold stepW
      rw [if_pos hn]
      exact hL
    · rw [if_pos (by simpa only [beq_iff_eq] using hn)]
  · rw [if_neg (by simpa only [beq_iff_eq] using hn)]
    have hDi : 0 ≤ D i ∧ D i ≤ 1048577 := by
      rcases hD i with h1 | h1
      · exact absurd h1 hn
      · exact h1
    by_cases h21 : (l.getD i (0, 0, 0)).1 = 21
    · rw [if_pos (show ((l.getD i (0, 0, 0)).1 == 21) = true by simpa only [beq_iff_eq] using h21)]
      obtain ⟨j, j1, j2, j3⟩ := hR.loop i hi hi2 (isOpen_iff.2 (.inl h21))
      have hj : mN m i = j := by unfold mN; rw [j1]; rfl
      have hA : 1 ≤ argA l i ∧ argA l i ≤ 1000 := by
        unfold argA
        generalize l.getD i (0, 0, 0) = x at *
        obtain ⟨o, A, B⟩ := x
        simp only at h21
        subst h21
        exact right21 hr
      obtain ⟨w1, w2⟩ := hW h21
      have hc : costI Wp l m i = loopI (Wp (i + 1) (mN m i)) (argA l i) := by unfold costI; rw [if_pos h21]
      have hlo := loopI_ok w2 hA
      rw [cost_counter_loop_1_is n W (by omega) hm (by omega) (by rw [hj]; exact j1) w1 w2 hA, Option.bind_some, ← hc]
      rw [← hc] at hlo
      rw [costadd_is n (by omega) hDi.2 (by omega) hlo.2, Option.bind_some]
      simp only [j1, next_ix (show j < 1000000 by omega), cut_ix (show a ≤ j + 1 by omega) (show j + 1 < 1000000 by omega), Int.toNat_natCast]
      refine ⟨_, ?_, sect_hand n (show j + 1 - a < d.length by omega) (addI (D i) (costI Wp l m i)) fun d' => some (zz, (i : Int), l, m, (a : Int), d')⟩
      have := hL.put bM (show a ≤ j + 1 by omega) (show j + 1 ≤ z by omega) (addI (D i) (costI Wp l m i))
      unfold stepW hopsI
      rw [if_neg hn, if_pos h21, hj]
      exact this
    · rw [if_neg (show ¬ ((l.getD i (0, 0, 0)).1 == 21) = true by simpa only [beq_iff_eq] using h21)]
      have hc : costI Wp l m i = 1 := by unfold costI; rw [if_neg h21]
      rw [costadd_is n (by omega) hDi.2 (by decide) (by decide)]
      simp only [Option.bind_some]
      by_cases h19 : (l.getD i (0, 0, 0)).1 = 19
      · rw [if_pos (show ((l.getD i (0, 0, 0)).1 == 19) = true by simpa only [beq_iff_eq] using h19)]
        have hjt := hR.jump i hi hi2 (.inl h19)
        have hji : i < jumpTo l i := by unfold jumpTo; omega
        simp only [jump_ix (show l.length < 1000000 by omega) (show i < l.length by omega) hr (.inl h19), cut_ix (show a ≤ jumpTo l i by omega) (show jumpTo l i < 1000000 by omega), Int.toNat_natCast]
        refine ⟨_, ?_, sect_hand n (show jumpTo l i - a < d.length by omega) (addI (D i) 1) fun d' => some (zz, (i : Int), l, m, (a : Int), d')⟩
        have := hL.put bM (show a ≤ jumpTo l i by omega) hjt (addI (D i) 1)
        unfold stepW hopsI
        rw [if_neg hn, if_neg h21, if_pos h19, hc]
        exact this
      · rw [if_neg (show ¬ ((l.getD i (0, 0, 0)).1 == 19) = true by simpa only [beq_iff_eq] using h19)]
        by_cases h20 : (l.getD i (0, 0, 0)).1 = 20
        · rw [if_pos (show ((l.getD i (0, 0, 0)).1 == 20) = true by simpa only [beq_iff_eq] using h20)]
          have hjt := hR.jump i hi hi2 (.inr h20)
          have hji : i < jumpTo l i := by unfold jumpTo; omega
          simp only [jump_ix (show l.length < 1000000 by omega) (show i < l.length by omega) hr (.inr h20), cut_ix (show a ≤ jumpTo l i by omega) (show jumpTo l i < 1000000 by omega), Int.toNat_natCast]
          have h1 := hL.put bM (show a ≤ jumpTo l i by omega) hjt (addI (D i) 1)
          have h2 := h1.put bM (show a ≤ i + 1 by omega) (show i + 1 ≤ z by omega) (addI (D i) 1)
          refine ⟨_, ?_, (sect_hand n (show jumpTo l i - a < d.length by omega) (addI (D i) 1) fun d1 => (if (decide (0 ≤ ((i + 1 - a : Nat) : Int)) && decide (((i + 1 - a : Nat) : Int) < (d1.length : Int))) = true then (if (d1.getD (i + 1 - a) 0 != (-1)) = true then ((cost_Sections_1.f n (d1.getD (i + 1 - a) 0) (addI (D i) 1)).bind fun y => if (decide (0 ≤ ((i + 1 - a : Nat) : Int)) && decide (((i + 1 - a : Nat) : Int) < (d1.length : Int))) = true then some (zz, (i : Int), l, m, (a : Int), d1.set (i + 1 - a) y) else none) else (if (decide (0 ≤ ((i + 1 - a : Nat) : Int)) && decide (((i + 1 - a : Nat) : Int) < (d1.length : Int))) = true then some (zz, (i : Int), l, m, (a : Int), d1.set (i + 1 - a) (addI (D i) 1)) else none)) else none)).trans (sect_hand n (by rw [List.length_set]; omega) (addI (D i) 1) fun d' => some (zz, (i : Int), l, m, (a : Int), d'))⟩
          unfold stepW hopsI
          rw [if_neg hn, if_neg h21, if_neg h19, if_pos h20, hc]
          exact h2
        · rw [if_neg (show ¬ ((l.getD i (0, 0, 0)).1 == 20) = true by simpa only [beq_iff_eq] using h20)]
          refine ⟨_, ?_, sect_hand n (show i + 1 - a < d.length by omega) (addI (D i) 1) fun d' => some (zz, (i : Int), l, m, (a : Int), d')⟩
          have := hL.put bM (show a ≤ i + 1 by omega) (show i + 1 ≤ z by omega) (addI (D i) 1)
          unfold stepW hopsI
          rw [if_neg hn, if_neg h21, if_neg h19, if_neg h20, hc]
          exact this
end Go.Proofs.Dk

/- Plain: the steps of ways, by the program, on. -/
namespace Go.Proofs.Dk
open Go
set_option maxRecDepth 100000
set_option linter.unusedVariables false
set_option linter.unusedSimpArgs false
def fillI (d : List Int) : Nat → Nat → List Int
  | 0, _ => d
  | r + 1, k => fillI (d.set (k + 1) (-1)) r (k + 1)
theorem fill_len : ∀ (r k : Nat) {d : List Int}, (fillI d r k).length = d.length
  | 0, k, d => rfl
  | r + 1, k, d => (fill_len r (k + 1)).trans (List.length_set ..)
theorem fill_at : ∀ (r k : Nat) {d : List Int} (j : Nat), k + r < d.length → (fillI d r k).getD j 0 = if k < j ∧ j ≤ k + r then -1 else d.getD j 0
  | 0, k, d, j, h => by rw [if_neg (by omega)]; rfl
  | r + 1, k, d, j, h => by
    rw [show fillI d (r + 1) k = fillI (d.set (k + 1) (-1)) r (k + 1) from rfl, fill_at r (k + 1) j (by rw [List.length_set]; omega), getD_set (by omega)]
    by_cases h1 : k + 1 < j ∧ j ≤ k + 1 + r
    · rw [if_pos h1, if_pos (by omega)]
    · rw [if_neg h1]
      by_cases h2 : j = k + 1
      · rw [if_pos h2, if_pos (by omega)]
      · rw [if_neg h2, if_neg (by omega)]
theorem fill_start {a z : Nat} (h : a ≤ z) : LD (fillI (List.replicate (z - a + 1) 0) (z - a) 0) (startW a) a z := by
  refine ⟨by rw [fill_len, List.length_replicate], fun k h1 h2 => ?_⟩
  rw [fill_at _ _ _ (by rw [List.length_replicate]; omega)]
  unfold startW
  by_cases e : k = a
  · subst e
    rw [if_neg (by omega), if_pos rfl, Nat.sub_self]
    rfl
  · rw [if_pos (by omega), if_neg e]
theorem isub_ix {a z : Nat} (h : a ≤ z) (hz : z < 1000000) : IntKind.wrap .i64 (IntKind.wrap .i64 ((z : Int) - (a : Int)) + 1) = ((z - a + 1 : Nat) : Int) := by
  rw [cut_ix h hz, next_ix (by omega)]

theorem most_fill (n : Nat) (W : ((((List (Int × (Int × Int))) × (List Int)) × Int × Int × Unit) × Unit) → Option Int) {l : List Ins} {m : List Int} {zz aa : Int} {c : Nat} (hc : c < 1000000) : ∀ (f k : Nat) {d : List Int}, d.length = c + 1 → k ≤ c → c < f + k →
    it (fun F (x : Int × Int × Int × (List (Int × (Int × Int))) × (List Int) × Int × (List Int)) => cost_counter_way_most.b0 n W F x.1 x.2.1 x.2.2.1 x.2.2.2.1 x.2.2.2.2.1 x.2.2.2.2.2.1 x.2.2.2.2.2.2) f (zz, (c : Int), (k : Int), l, m, aa, d) = some (zz, l, m, aa, fillI d (c - k) k)
  | 0, k, d, hd, hk, hf => by omega
  | f + 1, k, d, hd, hk, hf => by
    have ih := fun {d : List Int} => most_fill n W (l := l) (m := m) (zz := zz) (aa := aa) hc f (k + 1) (d := d)
    show cost_counter_way_most.b0 n W (it _ f) zz (c : Int) (k : Int) l m aa d = _
    generalize it (fun F (x : Int × Int × Int × (List (Int × (Int × Int))) × (List Int) × Int × (List Int)) => cost_counter_way_most.b0 n W F x.1 x.2.1 x.2.2.1 x.2.2.2.1 x.2.2.2.2.1 x.2.2.2.2.2.1 x.2.2.2.2.2.2) f = F at ih ⊢
    unfold cost_counter_way_most.b0
    rcases Nat.lt_or_ge k c with hlt | hge
    · rw [if_pos (decide_eq_true (by omega)), next_ix (by omega), if_pos (in_ix (by omega)), Int.toNat_natCast, ih (by rw [List.length_set, hd]) (by omega) (by omega), show c - k = (c - (k + 1)) + 1 by omega]
      rfl
    · have : k = c := by omega
      subst this
      rw [if_neg (by simp), Nat.sub_self]
      rfl
theorem most_run (n : Nat) (W : ((((List (Int × (Int × Int))) × (List Int)) × Int × Int × Unit) × Unit) → Option Int) {l : List Ins} {m h : List Int} (hF : Fine l m h) {Wp : Nat → Nat → Int} {a z : Nat} (hR : Reg l m a z) (hW : ∀ i, a ≤ i → i < z → opAt l i = 21 → W (((l, m), ((i + 1 : Nat) : Int), ((mN m i : Nat) : Int), ()), ()) = some (Wp (i + 1) (mN m i)) ∧ StepsI (Wp (i + 1) (mN m i))) : ∀ (f i : Nat) {d : List Int} {D : Nat → Int}, LD d D a z → (∀ k, StepsI (D k)) → a ≤ i → i ≤ z → z < f + i → ∃ d', LD d' (runW bM Wp l m (z - i) i D) a z ∧
    it (fun F (x : Int × Int × (List (Int × (Int × Int))) × (List Int) × Int × (List Int)) => cost_counter_way_most.b2 n W F x.1 x.2.1 x.2.2.1 x.2.2.2.1 x.2.2.2.2.1 x.2.2.2.2.2) f ((z : Int), (i : Int), l, m, (a : Int), d) = some ((z : Int), l, m, (a : Int), d')
  | 0, i, d, D, hL, hD, h1, h2, hf => by omega
  | f + 1, i, d, D, hL, hD, h1, h2, hf => by
    have ih := fun {d : List Int} {D : Nat → Int} => most_run n W hF hR hW f (i + 1) (d := d) (D := D)
    show ∃ d', _ ∧ cost_counter_way_most.b2 n W (it _ f) (z : Int) (i : Int) l m (a : Int) d = _
    generalize it (fun F (x : Int × Int × (List (Int × (Int × Int))) × (List Int) × Int × (List Int)) => cost_counter_way_most.b2 n W F x.1 x.2.1 x.2.2.1 x.2.2.2.1 x.2.2.2.2.1 x.2.2.2.2.2) f = F at ih ⊢
    obtain ⟨l1, l2⟩ := hF.len
    have hlt := hR.lt
    unfold cost_counter_way_most.b2
    rcases Nat.lt_or_ge i z with hiz | hge
    · obtain ⟨d1, k1, k2⟩ := most_j1 n W hF hR h1 hiz (hW i h1 hiz) hL hD (z : Int)
      rw [if_pos (decide_eq_true (by omega)), k2, Option.bind_some]
      simp only
      rw [next_ix (by omega), show z - i = (z - (i + 1)) + 1 by omega]
      exact ih k1 (stepW_ok bM_bet hD (hF.right (by omega)) fun h => (hW i h1 hiz h).2) (by omega) (by omega) (by omega)
    · have : i = z := by omega
      subst this
      rw [if_neg (by simp), Nat.sub_self]
      exact ⟨d, hL, rfl⟩
theorem most_s (n : Nat) (W : ((((List (Int × (Int × Int))) × (List Int)) × Int × Int × Unit) × Unit) → Option Int) {l : List Ins} {m h : List Int} (hF : Fine l m h) (hn : l.length < n) {Wp : Nat → Nat → Int} {a z : Nat} (hR : Reg l m a z) (hW : ∀ i, a ≤ i → i < z → opAt l i = 21 → W (((l, m), ((i + 1 : Nat) : Int), ((mN m i : Nat) : Int), ()), ()) = some (Wp (i + 1) (mN m i)) ∧ StepsI (Wp (i + 1) (mN m i))) :
    cost_counter_way_most.s n W (l, m) (a : Int) (z : Int) = some (runW bM Wp l m (z - a) a (startW a) z) := by
  obtain ⟨l1, l2⟩ := hF.len
  have hle := hR.le
  have hlt := hR.lt
  unfold cost_counter_way_most.s cost_counter_way_most.b0.l cost_counter_way_most.b2.l
  have c1 : (decide (0 ≤ ((z - a + 1 : Nat) : Int)) && (((z - a + 1 : Nat) : Int) == ((z - a + 1 : Nat) : Int)) && decide (((z - a + 1 : Nat) : Int) * (8 : Int) ≤ 140737488355328) && decide (1 ≤ 8)) = true := by simp; omega
  have c2 : (decide (0 ≤ 1) && decide (1 ≤ ((z - a + 1 : Nat) : Int))) = true := by simp; omega
  simp only [isub_ix hle (show z < 1000000 by omega), Int.toNat_natCast, List.length_replicate, Nat.add_sub_cancel]
  have h0 := most_fill n W (l := l) (m := m) (zz := (z : Int)) (aa := (a : Int)) (c := z - a) (by omega) n 0 (d := List.replicate (z - a + 1) 0) (by rw [List.length_replicate]) (Nat.zero_le _) (by omega)
  rw [show ((0 : Nat) : Int) = 0 from rfl, Nat.sub_zero] at h0
  obtain ⟨d', k1, k2⟩ := most_run n W hF hR hW n a (fill_start hle) (startW_ok a) (Nat.le_refl _) hle (by omega)
  rw [if_pos c1, if_pos c2, h0, Option.bind_some]
  simp only
  rw [k2, Option.bind_some]
  simp only [cut_ix hle (show z < 1000000 by omega), Int.toNat_natCast]
  rw [if_pos (in_ix (by rw [k1.len]; omega)), k1.at_ z hle (Nat.le_refl _)]
theorem most_it (n : Nat) {l : List Ins} {m h : List Int} (hF : Fine l m h) (hn : l.length < n) : ∀ (g : Nat) {a z : Nat}, Reg l m a z → z - a < g →
    it (fun (W : ((((List (Int × (Int × Int))) × (List Int)) × Int × Int × Unit) × Unit) → Option Int) x => cost_counter_way_most.s n W x.1.1 x.1.2.1 x.1.2.2.1) g (((l, m), (a : Int), (z : Int), ()), ()) = some (wayF bM l m g a z)
  | 0, a, z, hR, hg => by omega
  | g + 1, a, z, hR, hg => by
    have hlt := hR.lt
    have ih := fun {a z : Nat} => most_it n hF hn g (a := a) (z := z)
    show cost_counter_way_most.s n (it _ g) (l, m) (a : Int) (z : Int) = _
    refine most_s n _ hF hn hR fun i h1 h2 h3 => ?_
    have ho := isOpen_iff.2 (Or.inl (b := opAt l i = 23) h3)
    have hRi := hF.reg (show i < l.length by omega) ho
    obtain ⟨j, j1, j2, j3⟩ := hR.loop i h1 h2 ho
    have hj : mN m i = j := by unfold mN; rw [j1]; rfl
    exact ⟨ih hRi (by omega), wayF_ok bM_bet hF g hRi⟩
theorem most_is (n : Nat) {l : List Ins} {m h : List Int} (hF : Fine l m h) (hn : l.length < n) {a z : Nat} (hR : Reg l m a z) : cost_counter_way_most.f n (l, m) (a : Int) (z : Int) = some (wayF bM l m n a z) := by
  have := hR.lt
  exact most_it n hF hn n hR (by omega)

theorem sect_fill (n : Nat) (W : ((((List (Int × (Int × Int))) × (List Int)) × Int × Int × Unit) × Unit) → Option Int) {l : List Ins} {m : List Int} {zz aa : Int} {c : Nat} (hc : c < 1000000) : ∀ (f k : Nat) {d : List Int}, d.length = c + 1 → k ≤ c → c < f + k →
    it (fun F (x : Int × Int × Int × (List (Int × (Int × Int))) × (List Int) × Int × (List Int)) => cost_counter_way_1.b0 n W F x.1 x.2.1 x.2.2.1 x.2.2.2.1 x.2.2.2.2.1 x.2.2.2.2.2.1 x.2.2.2.2.2.2) f (zz, (c : Int), (k : Int), l, m, aa, d) = some (zz, l, m, aa, fillI d (c - k) k)
  | 0, k, d, hd, hk, hf => by omega
  | f + 1, k, d, hd, hk, hf => by
    have ih := fun {d : List Int} => sect_fill n W (l := l) (m := m) (zz := zz) (aa := aa) hc f (k + 1) (d := d)
    show cost_counter_way_1.b0 n W (it _ f) zz (c : Int) (k : Int) l m aa d = _
    generalize it (fun F (x : Int × Int × Int × (List (Int × (Int × Int))) × (List Int) × Int × (List Int)) => cost_counter_way_1.b0 n W F x.1 x.2.1 x.2.2.1 x.2.2.2.1 x.2.2.2.2.1 x.2.2.2.2.2.1 x.2.2.2.2.2.2) f = F at ih ⊢
    unfold cost_counter_way_1.b0
    rcases Nat.lt_or_ge k c with hlt | hge
    · rw [if_pos (decide_eq_true (by omega)), next_ix (by omega), if_pos (in_ix (by omega)), Int.toNat_natCast, ih (by rw [List.length_set, hd]) (by omega) (by omega), show c - k = (c - (k + 1)) + 1 by omega]
      rfl
    · have : k = c := by omega
      subst this
      rw [if_neg (by simp), Nat.sub_self]
      rfl
theorem sect_run (n : Nat) (W : ((((List (Int × (Int × Int))) × (List Int)) × Int × Int × Unit) × Unit) → Option Int) {l : List Ins} {m h : List Int} (hF : Fine l m h) {Wp : Nat → Nat → Int} {a z : Nat} (hR : Reg l m a z) (hW : ∀ i, a ≤ i → i < z → opAt l i = 21 → W (((l, m), ((i + 1 : Nat) : Int), ((mN m i : Nat) : Int), ()), ()) = some (Wp (i + 1) (mN m i)) ∧ StepsI (Wp (i + 1) (mN m i))) : ∀ (f i : Nat) {d : List Int} {D : Nat → Int}, LD d D a z → (∀ k, StepsI (D k)) → a ≤ i → i ≤ z → z < f + i → ∃ d', LD d' (runW bM Wp l m (z - i) i D) a z ∧
    it (fun F (x : Int × Int × (List (Int × (Int × Int))) × (List Int) × Int × (List Int)) => cost_counter_way_1.b2 n W F x.1 x.2.1 x.2.2.1 x.2.2.2.1 x.2.2.2.2.1 x.2.2.2.2.2) f ((z : Int), (i : Int), l, m, (a : Int), d) = some ((z : Int), l, m, (a : Int), d')
  | 0, i, d, D, hL, hD, h1, h2, hf => by omega
  | f + 1, i, d, D, hL, hD, h1, h2, hf => by
    have ih := fun {d : List Int} {D : Nat → Int} => sect_run n W hF hR hW f (i + 1) (d := d) (D := D)
    show ∃ d', _ ∧ cost_counter_way_1.b2 n W (it _ f) (z : Int) (i : Int) l m (a : Int) d = _
    generalize it (fun F (x : Int × Int × (List (Int × (Int × Int))) × (List Int) × Int × (List Int)) => cost_counter_way_1.b2 n W F x.1 x.2.1 x.2.2.1 x.2.2.2.1 x.2.2.2.2.1 x.2.2.2.2.2) f = F at ih ⊢
    obtain ⟨l1, l2⟩ := hF.len
    have hlt := hR.lt
    unfold cost_counter_way_1.b2
    rcases Nat.lt_or_ge i z with hiz | hge
    · obtain ⟨d1, k1, k2⟩ := sect_j1 n W hF hR h1 hiz (hW i h1 hiz) hL hD (z : Int)
      rw [if_pos (decide_eq_true (by omega)), k2, Option.bind_some]
      simp only
      rw [next_ix (by omega), show z - i = (z - (i + 1)) + 1 by omega]
      exact ih k1 (stepW_ok bM_bet hD (hF.right (by omega)) fun h => (hW i h1 hiz h).2) (by omega) (by omega) (by omega)
    · have : i = z := by omega
      subst this
      rw [if_neg (by simp), Nat.sub_self]
      exact ⟨d, hL, rfl⟩
theorem sect_s (n : Nat) (W : ((((List (Int × (Int × Int))) × (List Int)) × Int × Int × Unit) × Unit) → Option Int) {l : List Ins} {m h : List Int} (hF : Fine l m h) (hn : l.length < n) {Wp : Nat → Nat → Int} {a z : Nat} (hR : Reg l m a z) (hW : ∀ i, a ≤ i → i < z → opAt l i = 21 → W (((l, m), ((i + 1 : Nat) : Int), ((mN m i : Nat) : Int), ()), ()) = some (Wp (i + 1) (mN m i)) ∧ StepsI (Wp (i + 1) (mN m i))) :
    cost_counter_way_1.s n W (l, m) (a : Int) (z : Int) = some (runW bM Wp l m (z - a) a (startW a) z) := by
  obtain ⟨l1, l2⟩ := hF.len
  have hle := hR.le
  have hlt := hR.lt
  unfold cost_counter_way_1.s cost_counter_way_1.b0.l cost_counter_way_1.b2.l
  have c1 : (decide (0 ≤ ((z - a + 1 : Nat) : Int)) && (((z - a + 1 : Nat) : Int) == ((z - a + 1 : Nat) : Int)) && decide (((z - a + 1 : Nat) : Int) * (8 : Int) ≤ 140737488355328) && decide (1 ≤ 8)) = true := by simp; omega
  have c2 : (decide (0 ≤ 1) && decide (1 ≤ ((z - a + 1 : Nat) : Int))) = true := by simp; omega
  simp only [isub_ix hle (show z < 1000000 by omega), Int.toNat_natCast, List.length_replicate, Nat.add_sub_cancel]
  have h0 := sect_fill n W (l := l) (m := m) (zz := (z : Int)) (aa := (a : Int)) (c := z - a) (by omega) n 0 (d := List.replicate (z - a + 1) 0) (by rw [List.length_replicate]) (Nat.zero_le _) (by omega)
  rw [show ((0 : Nat) : Int) = 0 from rfl, Nat.sub_zero] at h0
  obtain ⟨d', k1, k2⟩ := sect_run n W hF hR hW n a (fill_start hle) (startW_ok a) (Nat.le_refl _) hle (by omega)
  rw [if_pos c1, if_pos c2, h0, Option.bind_some]
  simp only
  rw [k2, Option.bind_some]
  simp only [cut_ix hle (show z < 1000000 by omega), Int.toNat_natCast]
  rw [if_pos (in_ix (by rw [k1.len]; omega)), k1.at_ z hle (Nat.le_refl _)]
theorem sect_it (n : Nat) {l : List Ins} {m h : List Int} (hF : Fine l m h) (hn : l.length < n) : ∀ (g : Nat) {a z : Nat}, Reg l m a z → z - a < g →
    it (fun (W : ((((List (Int × (Int × Int))) × (List Int)) × Int × Int × Unit) × Unit) → Option Int) x => cost_counter_way_1.s n W x.1.1 x.1.2.1 x.1.2.2.1) g (((l, m), (a : Int), (z : Int), ()), ()) = some (wayF bM l m g a z)
  | 0, a, z, hR, hg => by omega
  | g + 1, a, z, hR, hg => by
    have hlt := hR.lt
    have ih := fun {a z : Nat} => sect_it n hF hn g (a := a) (z := z)
    show cost_counter_way_1.s n (it _ g) (l, m) (a : Int) (z : Int) = _
    refine sect_s n _ hF hn hR fun i h1 h2 h3 => ?_
    have ho := isOpen_iff.2 (Or.inl (b := opAt l i = 23) h3)
    have hRi := hF.reg (show i < l.length by omega) ho
    obtain ⟨j, j1, j2, j3⟩ := hR.loop i h1 h2 ho
    have hj : mN m i = j := by unfold mN; rw [j1]; rfl
    exact ⟨ih hRi (by omega), wayF_ok bM_bet hF g hRi⟩
theorem sect_is (n : Nat) {l : List Ins} {m h : List Int} (hF : Fine l m h) (hn : l.length < n) {a z : Nat} (hR : Reg l m a z) : cost_counter_way_1.f n (l, m) (a : Int) (z : Int) = some (wayF bM l m n a z) := by
  have := hR.lt
  exact sect_it n hF hn n hR (by omega)
end Go.Proofs.Dk

/- Plain: each instruction can be reached. -/
namespace Go.Proofs.Dk
open Go
set_option maxRecDepth 100000
set_option linter.unusedVariables false
set_option linter.unusedSimpArgs false
theorem least_of {P : Nat → Prop} : ∀ {n : Nat}, P n → ∃ k, k ≤ n ∧ P k ∧ ∀ j, j < k → ¬ P j := by
  intro n
  induction n using Nat.strongRecOn with
  | _ n ih =>
    intro hn
    by_cases h : ∃ j, j < n ∧ P j
    · obtain ⟨j, j1, j2⟩ := h
      obtain ⟨k, k1, k2, k3⟩ := ih j j1 j2
      exact ⟨k, by omega, k2, k3⟩
    · exact ⟨n, Nat.le_refl _, hn, fun j hj hp => h ⟨j, hj, hp⟩⟩
theorem set_true {s : List Bool} {q k : Nat} (h : (s.set q true).getD k false = true) : s.getD k false = true ∨ k = q := by
  by_cases e : k = q
  · exact .inr e
  · refine .inl ?_
    rw [List.getD_eq_getElem?_getD, List.getElem?_set_ne (fun h => e h.symm)] at h
    rw [List.getD_eq_getElem?_getD]
    exact h
theorem hands_some {t : ByteArray} : ∀ (ks : List Nat) {f : Flow} {k : Nat}, (ks.foldl (fun g q => handI q t g) f).2.1.getD k false = true → f.2.1.getD k false = true ∨ k ∈ ks
  | [], f, k, h => .inl h
  | q :: ks, f, k, h => by
    rcases hands_some ks h with h1 | h1
    · rcases set_true h1 with h2 | h2
      · exact .inl h2
      · exact .inr (by rw [h2]; exact List.mem_cons_self)
    · exact .inr (List.mem_cons_of_mem _ h1)
theorem flowStep_some {l : List Ins} {m : List Int} {i : Nat} {f f' : Flow} (hs : flowStep l m i f = .inr f') : f.2.1.getD i false = true ∧ ∀ k, f'.2.1.getD k false = true → f.2.1.getD k false = true ∨ k ∈ nextsI l i := by
  unfold flowStep at hs
  split at hs
  · cases hs
  · rename_i h1
    refine ⟨by simpa using h1, fun k hk => ?_⟩
    split at hs
    · cases hs
    · split at hs
      · cases hs
      · split at hs
        · cases hs
        · cases hs
          exact hands_some _ hk
theorem stacks_reach {l : List Ins} {m : List Int} : ∀ (r i : Nat) {f f' : Flow}, stacksS l m r i f = .inr f' → (∀ k, f.2.1.getD k false = true → k = 0 ∨ ∃ p, p < i ∧ k ∈ nextsI l p) → ∀ k, i ≤ k → k < i + r → k = 0 ∨ ∃ p, p < k ∧ k ∈ nextsI l p
  | 0, i, f, f', hs, hI, k, h1, h2 => by omega
  | r + 1, i, f, f', hs, hI, k, h1, h2 => by
    simp only [stacksS] at hs
    cases hq : flowStep l m i f with
    | inl e => rw [hq] at hs; cases hs
    | inr f1 =>
      rw [hq] at hs
      obtain ⟨a1, a2⟩ := flowStep_some hq
      by_cases e : k = i
      · subst e
        exact hI k a1
      · refine stacks_reach r (i + 1) hs (fun k hk => ?_) k (by omega) (by omega)
        rcases a2 k hk with h3 | h3
        · rcases hI k h3 with h4 | ⟨p, p1, p2⟩
          · exact .inl h4
          · exact .inr ⟨p, by omega, p2⟩
        · exact .inr ⟨i, by omega, h3⟩
def Come (l : List Ins) : Prop := ∀ k, 0 < k → k < l.length → ∃ p, p < k ∧ k ∈ nextsI l p
theorem come_is {l : List Ins} (h : stacksI l = 0) : wholeI l = 0 ∧ Come l := by
  unfold stacksI at h
  split at h
  · rename_i hw
    exact absurd h hw
  · rename_i hw
    have hw0 : wholeI l = 0 := by
      by_cases e : wholeI l = 0
      · exact e
      · exact absurd e hw
    refine ⟨hw0, fun k k1 k2 => ?_⟩
    cases hq : stacksS l (scanI l).1 l.length 0 (flow0 l) with
    | inl e =>
      rw [hq] at h
      simp only at h
      subst h
      exfalso
      have key : ∀ (r i : Nat) {f : Flow}, stacksS l (scanI l).1 r i f ≠ .inl 0 := by
        intro r
        induction r with
        | zero => intro i f h; cases h
        | succ r ih =>
          intro i f h
          simp only [stacksS] at h
          cases hq : flowStep l (scanI l).1 i f with
          | inr f1 => rw [hq] at h; exact ih (i + 1) h
          | inl e =>
            rw [hq] at h
            cases h
            unfold flowStep at hq
            split at hq
            · cases hq
            · split at hq
              · cases hq
              · split at hq
                · cases hq
                · split at hq
                  · rename_i h5
                    exact h5 (Sum.inl.inj hq)
                  · cases hq
      exact key _ _ hq
    | inr f' =>
      have hI : ∀ k, (flow0 l).2.1.getD k false = true → k = 0 ∨ ∃ p, p < 0 ∧ k ∈ nextsI l p := fun k hk => by
        left
        unfold flow0 at hk
        rcases set_true hk with h2 | h2
        · rw [List.getD_eq_getElem?_getD, List.getElem?_replicate] at h2
          split at h2 <;> cases h2
        · exact h2
      rcases stacks_reach l.length 0 hq hI k (Nat.zero_le _) (by omega) with h1 | h1
      · omega
      · exact h1
theorem Fine.jump_enc {l : List Ins} {m h : List Int} (hF : Fine l m h) {i : Nat} (hi : i < l.length) (hj : opAt l i = 19 ∨ opAt l i = 20) (q : Nat) : enc l m q (jumpTo l i) = enc l m q i := by
  obtain ⟨k1, k2⟩ := hF.jump hi hj
  rcases home_cases l m i with hh | ⟨p, hh⟩
  · rw [enc_none hh q, enc_none (k2.trans hh) q]
  · obtain ⟨_, _, x3⟩ := enc_home hF.nest hi hh
    obtain ⟨_, _, y3⟩ := enc_home hF.nest k1 (k2.trans hh)
    rw [x3 q, y3 q]
theorem enc_iff {l : List Ins} {m : List Int} {q k j : Nat} (ho : isOpen l q = true) (hj : m.getD q 0 = (j : Int)) : enc l m q k = true ↔ q < k ∧ k ≤ j := by
  unfold enc
  rw [ho, hj]
  simp
def RIn (l : List Ins) (m : List Int) (a z k : Nat) : Prop := a ≤ k ∧ k ≤ z ∧ ∀ q, a ≤ q → q < k → opAt l q = 21 → mN m q < k
structure Way (l : List Ins) (m : List Int) (a z : Nat) : Prop where
  reg : Reg l m a z
  out : a = 0 ∨ ∃ p, a = p + 1 ∧ isOpen l p = true ∧ m.getD p 0 = (z : Int)
theorem Fine.way {l : List Ins} {m h : List Int} (hF : Fine l m h) {p : Nat} (hp : p < l.length) (ho : isOpen l p = true) : Way l m (p + 1) (mN m p) := by
  refine ⟨hF.reg hp ho, .inr ⟨p, rfl, ho, ?_⟩⟩
  obtain ⟨j, j1, _⟩ := hF.nest.open_ p hp ho
  unfold mN
  rw [j1]
  rfl
theorem Fine.wayAll {l : List Ins} {m h : List Int} (hF : Fine l m h) : Way l m 0 (l.length - 1) := ⟨hF.all, .inl rfl⟩
theorem pred_in {l : List Ins} {m h : List Int} (hF : Fine l m h) (hS : Come l) {a z : Nat} (hR : Way l m a z) {k : Nat} (hk : RIn l m a z k) (hak : a < k) : ∃ p, RIn l m a z p ∧ p < k ∧ k ∈ hopsI l m p := by
  obtain ⟨k1, k2, k3⟩ := hk
  have hlt := hR.reg.lt
  obtain ⟨p, p1, p2⟩ := hS k (by omega) (by omega)
  have hpl : p < l.length := by omega
  have hcase : k = p + 1 ∨ ((opAt l p = 19 ∨ opAt l p = 20) ∧ k = jumpTo l p) := by
    unfold nextsI at p2
    split at p2
    · rename_i h1
      rw [List.mem_singleton] at p2
      exact .inr ⟨.inl h1, p2⟩
    · split at p2
      · rename_i h1 h2
        rw [List.mem_cons, List.mem_singleton] at p2
        rcases p2 with h3 | h3
        · exact .inl h3
        · exact .inr ⟨.inr h2, h3⟩
      · split at p2
        · cases p2
        · rw [List.mem_singleton] at p2
          exact .inl p2
  have hap : a ≤ p := by
    rcases hcase with h1 | ⟨h1, h2⟩
    · omega
    · rcases hR.out with h3 | ⟨o, o1, o2, o3⟩
      · omega
      · rcases Nat.lt_or_ge p a with h4 | h4
        · exfalso
          have e1 : enc l m o k = true := (enc_iff o2 o3).2 ⟨by omega, k2⟩
          rw [h2, hF.jump_enc hpl h1, enc_iff o2 o3] at e1
          omega
        · exact h4
  by_cases hin : RIn l m a z p
  · refine ⟨p, hin, p1, ?_⟩
    unfold nextsI at p2
    unfold hopsI
    by_cases h21 : opAt l p = 21
    · exfalso
      have hkp : k = p + 1 := by
        rcases hcase with h1 | ⟨h1, _⟩
        · exact h1
        · omega
      have := k3 p hap (by omega) h21
      obtain ⟨j, j1, j2, j3⟩ := hF.nest.open_ p hpl (isOpen_iff.2 (.inl h21))
      unfold mN at this
      rw [j1] at this
      have e : ((j : Int)).toNat = j := rfl
      omega
    · rw [if_neg h21]
      by_cases h19 : opAt l p = 19
      · rw [if_pos h19] at p2 ⊢
        exact p2
      · rw [if_neg h19] at p2 ⊢
        by_cases h20 : opAt l p = 20
        · rw [if_pos h20] at p2 ⊢
          rw [List.mem_cons, List.mem_singleton] at p2 ⊢
          exact p2.symm
        · rw [if_neg h20] at p2 ⊢
          split at p2
          · cases p2
          · exact p2
  · have : ∃ q, a ≤ q ∧ q < p ∧ opAt l q = 21 ∧ p ≤ mN m q := by
      apply Classical.byContradiction
      intro hno
      refine hin ⟨hap, by omega, fun q q1 q2 q3 => ?_⟩
      rcases Nat.lt_or_ge (mN m q) p with h1 | h1
      · exact h1
      · exact absurd ⟨q, q1, q2, q3, h1⟩ hno
    obtain ⟨q0, hq0⟩ := this
    obtain ⟨q, q1, ⟨q2, q3, q4, q5⟩, q6⟩ := least_of (P := fun q => a ≤ q ∧ q < p ∧ opAt l q = 21 ∧ p ≤ mN m q) hq0
    have hqo : isOpen l q = true := isOpen_iff.2 (.inl q4)
    obtain ⟨j, j1, j2, j3⟩ := hF.nest.open_ q (by omega) hqo
    have hj : mN m q = j := by unfold mN; rw [j1]; rfl
    rw [hj] at q5
    have hqk := k3 q q2 (by omega) q4
    rw [hj] at hqk
    refine ⟨q, ⟨q2, by omega, fun q' a1 a2 a3 => ?_⟩, by omega, ?_⟩
    · rcases Nat.lt_or_ge (mN m q') q with h1 | h1
      · exact h1
      · exfalso
        have ho' : isOpen l q' = true := isOpen_iff.2 (.inl a3)
        obtain ⟨j', e1, e2, e3, e4, e5⟩ := hF.closed.op_ q' (by omega) ho'
        have hj' : mN m q' = j' := by unfold mN; rw [e1]; rfl
        rw [hj'] at h1
        have hne : j' ≠ q := fun e => by
          subst e
          rw [close_not e4] at hqo
          cases hqo
        obtain ⟨x, x1, x2⟩ := hF.nest.cross q' q j' a2 (by omega) (by omega) ho' hqo e1
        have : (x : Int) = (j : Int) := x1.symm.trans j1
        exact q6 q' a2 ⟨a1, by omega, a3, by rw [hj']; omega⟩
    · rcases hcase with h1 | ⟨h1, h2⟩
      · unfold hopsI
        rw [if_pos q4, hj, List.mem_singleton]
        omega
      · exfalso
        have e1 : enc l m q p = true := (enc_iff hqo j1).2 ⟨q3, q5⟩
        rw [← hF.jump_enc hpl h1, ← h2, enc_iff hqo j1] at e1
        omega
theorem puts_some {b : Int → Int → Int} (hb : Bet b) {v : Int} (hv : v ≠ -1) : ∀ (ks : List Nat) {D : Nat → Int} {k : Nat}, D k ≠ -1 ∨ k ∈ ks → ks.foldl (fun g k => putI b g k v) D k ≠ -1
  | [], D, k, h => h.elim id fun h => by cases h
  | q :: ks, D, k, h => by
    refine puts_some hb hv ks (D := putI b D q v) ?_
    unfold putI
    by_cases e : k = q
    · left
      rw [if_pos e]
      split
      · exact hv
      · rename_i h1
        rcases hb (D q) v with h2 | h2 <;> rw [h2]
        · exact h1
        · exact hv
    · rw [if_neg e]
      rcases h with h | h
      · exact .inl h
      · rcases List.mem_cons.1 h with h | h
        · exact absurd h e
        · exact .inr h
theorem run_reach {b : Int → Int → Int} (hb : Bet b) {W : Nat → Nat → Int} {l : List Ins} {m h : List Int} (hF : Fine l m h) (hS : Come l) {a z : Nat} (hR : Way l m a z) (hW : ∀ i, a ≤ i → i < z → opAt l i = 21 → StepsI (W (i + 1) (mN m i))) : ∀ (r i : Nat) {D : Nat → Int}, (∀ k, StepsI (D k)) → a ≤ i → i + r = z → (∀ k, RIn l m a z k → k = a ∨ (∃ p, RIn l m a z p ∧ p < i ∧ k ∈ hopsI l m p) → D k ≠ -1) → ∀ k, RIn l m a z k → runW b W l m r i D k ≠ -1
  | 0, i, D, hD, hi, hz, hI, k, hk => by
    refine hI k hk ?_
    by_cases e : k = a
    · exact .inl e
    · obtain ⟨p, p1, p2, p3⟩ := pred_in hF hS hR hk (by have := hk.1; omega)
      exact .inr ⟨p, p1, by have := hk.2.1; omega, p3⟩
  | r + 1, i, D, hD, hi, hz, hI, k, hk => by
    have hlt := hR.reg.lt
    have hWi := hW i hi (by omega)
    have hr := hF.right (show i < l.length by omega)
    refine run_reach hb hF hS hR hW r (i + 1) (stepW_ok hb hD hr hWi) (by omega) (by omega) (fun j hj hp => ?_) k hk
    have old : D j ≠ -1 → stepW b W l m i D j ≠ -1 := fun h => by
      unfold stepW
      split
      · exact h
      · rename_i h1
        have hDi : 0 ≤ D i := by
          rcases hD i with h2 | h2
          · exact absurd h2 h1
          · exact h2.1
        have := addI_ok hDi (costI_ok hr hWi).1
        exact puts_some hb (by omega) _ (.inl h)
    rcases hp with h1 | ⟨p, p1, p2, p3⟩
    · exact old (hI j hj (.inl h1))
    · by_cases e : p = i
      · subst e
        have hDp : D p ≠ -1 := by
          refine hI p p1 ?_
          by_cases e : p = a
          · exact .inl e
          · obtain ⟨p', a1, a2, a3⟩ := pred_in hF hS hR p1 (by omega)
            exact .inr ⟨p', a1, a2, a3⟩
        have hDp0 : 0 ≤ D p := by
          rcases hD p with h2 | h2
          · exact absurd h2 hDp
          · exact h2.1
        unfold stepW
        rw [if_neg hDp]
        have := addI_ok hDp0 (costI_ok hr hWi).1
        exact puts_some hb (by omega) _ (.inr p3)
      · exact old (hI j hj (.inr ⟨p, p1, by omega, p3⟩))
theorem Way.end_in {l : List Ins} {m h : List Int} {a z : Nat} (hR : Way l m a z) : RIn l m a z z := by
  refine ⟨hR.reg.le, Nat.le_refl _, fun q h1 h2 h3 => ?_⟩
  obtain ⟨j, j1, j2, j3⟩ := hR.reg.loop q h1 h2 (isOpen_iff.2 (.inl h3))
  unfold mN
  rw [j1]
  exact j3
theorem way_reach {b : Int → Int → Int} (hb : Bet b) {l : List Ins} {m h : List Int} (hF : Fine l m h) (hS : Come l) (f : Nat) {a z : Nat} (hR : Way l m a z) : 0 ≤ wayF b l m f a z ∧ wayF b l m f a z ≤ 1048577 := by
  have h0 := wayF_ok hb hF f hR.reg
  have hlt := hR.reg.lt
  have hle := hR.reg.le
  cases f with
  | zero => exact ⟨Int.le_refl _, by show (0 : Int) ≤ 1048577; decide⟩
  | succ f =>
    have h1 : wayF b l m (f + 1) a z ≠ -1 := by
      refine run_reach hb hF hS hR (fun i i1 i2 i3 => wayF_ok hb hF f (hF.reg (by omega) (isOpen_iff.2 (.inl i3)))) (z - a) a (startW_ok a) (Nat.le_refl _) (by omega) (fun k hk hp => ?_) z (Way.end_in (h := h) hR)
      rcases hp with e | ⟨p, p1, p2, _⟩
      · subst e
        unfold startW
        rw [if_pos rfl]
        decide
      · have := p1.1
        omega
    rcases h0 with h2 | h2
    · exact absurd h2 h1
    · exact h2
end Go.Proofs.Dk

/- Plain: the steps of ways, as the document says. -/
namespace Go.Proofs.Dk
open Go
set_option maxRecDepth 100000
set_option linter.unusedVariables false
set_option linter.unusedSimpArgs false
def bI (most : Bool) : Int → Int → Int := if most then bM else bL
theorem bI_bet (most : Bool) : Bet (bI most) := by
  unfold bI
  cases most
  · exact bL_bet
  · exact bM_bet
theorem putI_comm (b : Int → Int → Int) (D : Nat → Int) (q k : Nat) (v : Int) : putI b (putI b D q v) k v = putI b (putI b D k v) q v := by
  by_cases e : q = k
  · subst e; rfl
  · have e2 : ¬ k = q := fun h => e h.symm
    funext j
    unfold putI
    by_cases h1 : j = k
    · subst h1
      simp only [if_true, e2, e, if_false]
    · by_cases h2 : j = q
      · subst h2
        simp only [h1, if_true, if_false]
      · simp only [h1, h2, if_false]
def hopsR (l : List Ins) (m : List Int) (i : Nat) : List Nat := if opAt l i = 19 then [jumpTo l i] else if opAt l i = 20 then [i + 1, jumpTo l i] else if opAt l i = 21 then [mN m i + 1] else [i + 1]
theorem hopsR_eq (b : Int → Int → Int) (l : List Ins) (m : List Int) (i : Nat) (D : Nat → Int) (v : Int) : (hopsR l m i).foldl (fun g k => putI b g k v) D = (hopsI l m i).foldl (fun g k => putI b g k v) D := by
  unfold hopsR hopsI
  by_cases h19 : opAt l i = 19
  · rw [if_pos h19, if_neg (by omega), if_pos h19]
  · by_cases h20 : opAt l i = 20
    · rw [if_neg h19, if_pos h20, if_neg (by omega), if_neg h19, if_pos h20]
      exact putI_comm b D (i + 1) (jumpTo l i) v
    · by_cases h21 : opAt l i = 21
      · rw [if_neg h19, if_neg h20, if_pos h21, if_pos h21]
      · rw [if_neg h19, if_neg h20, if_neg h21, if_neg h21, if_neg h19, if_neg h20]
theorem hopsR_len (l : List Ins) (m : List Int) (i : Nat) : (hopsR l m i).length ≤ 2 := by
  unfold hopsR
  split
  · simp
  · split
    · simp
    · split <;> simp
theorem hopsR_in {l : List Ins} {m : List Int} {a z i : Nat} (hR : Reg l m a z) (h1 : a ≤ i) (h2 : i < z) : ∀ q ∈ hopsR l m i, i < q ∧ q ≤ z := by
  intro q hq
  unfold hopsR at hq
  split at hq
  · rename_i h
    rw [List.mem_singleton] at hq
    subst hq
    exact ⟨by unfold jumpTo; omega, hR.jump i h1 h2 (.inl h)⟩
  · split at hq
    · rename_i h
      rw [List.mem_cons, List.mem_singleton] at hq
      rcases hq with rfl | rfl
      · exact ⟨by omega, by omega⟩
      · exact ⟨by unfold jumpTo; omega, hR.jump i h1 h2 (.inr h)⟩
    · split at hq
      · rename_i h
        rw [List.mem_singleton] at hq
        obtain ⟨j, j1, j2, j3⟩ := hR.loop i h1 h2 (isOpen_iff.2 (.inl h))
        have hj : mN m i = j := by unfold mN; rw [j1]; rfl
        subst hq
        rw [hj]
        exact ⟨by omega, by omega⟩
      · rw [List.mem_singleton] at hq
        subst hq
        exact ⟨by omega, by omega⟩
structure LQ (d : List Int) (s : List Bool) (D : Nat → Int) (a z : Nat) : Prop where
  dl : d.length = z - a + 1
  sl : s.length = z - a + 1
  at_ : ∀ k, a ≤ k → k ≤ z → d.getD (k - a) 0 = (if D k = -1 then 0 else D k) ∧ s.getD (k - a) false = (D k != -1)
theorem getD_setB {l : List Bool} {i j : Nat} {v d : Bool} (h : i < l.length) : (l.set i v).getD j d = if j = i then v else l.getD j d := getD_set h
theorem LQ.put {d : List Int} {s : List Bool} {D : Nat → Int} {a z : Nat} (h : LQ d s D a z) (b : Int → Int → Int) {k : Nat} (hk : a ≤ k) (hk2 : k ≤ z) {v x : Int} (hx : x = if D k = -1 then v else b (D k) v) (hx0 : x ≠ -1) : LQ (d.set (k - a) x) (s.set (k - a) true) (putI b D k v) a z := by
  have h1 := h.dl
  have h2 := h.sl
  refine ⟨by rw [List.length_set, h1], by rw [List.length_set, h2], fun j j1 j2 => ?_⟩
  rw [getD_set (by omega), getD_setB (by omega)]
  unfold putI
  by_cases e : j = k
  · subst e
    rw [if_pos rfl, if_pos rfl, if_pos rfl, ← hx, if_neg hx0]
    exact ⟨rfl, (bne_iff_ne.2 hx0).symm⟩
  · have e3 : ¬ (j - a = k - a) := by omega
    simp only [e3, e, if_false]
    exact h.at_ j j1 j2
theorem LQ.same {d : List Int} {s : List Bool} {D : Nat → Int} {a z : Nat} (h : LQ d s D a z) (b : Int → Int → Int) {k : Nat} {v : Int} (h1 : D k ≠ -1) (h2 : b (D k) v = D k) : LQ d s (putI b D k v) a z := by
  refine ⟨h.dl, h.sl, fun j j1 j2 => ?_⟩
  unfold putI
  by_cases e : j = k
  · subst e
    rw [if_pos rfl, if_neg h1, h2]
    exact h.at_ j j1 j2
  · rw [if_neg e]
    exact h.at_ j j1 j2
abbrev WR := (((List (Int × (Int × Int))) × (List Int) × Int × Int × Bool × Unit) × Unit) → Option Int
theorem cut_is (n : Nat) (x : Int) : camshaftref09_cut.f n x = some (if 1048577 < x then 1048577 else x) := rfl
theorem ref_j0w (n : Nat) (W : WR) {l : List Ins} {m h : List Int} (hF : Fine l m h) {Wp : Nat → Nat → Int} {a z : Nat} (hR : Reg l m a z) {i : Nat} (hi : a ≤ i) (hi2 : i < z) {most : Bool} (hW : opAt l i = 21 → W ((l, m, ((i + 1 : Nat) : Int), ((mN m i : Nat) : Int), most, ()), ()) = some (Wp (i + 1) (mN m i)) ∧ 0 ≤ Wp (i + 1) (mN m i) ∧ Wp (i + 1) (mN m i) ≤ 1048577) (d : List Int) (s : List Bool) (aa zz : Int) :
    camshaftref09_way.j0 n W l m aa zz most d s (i : Int) 1 [((i + 1 : Nat) : Int)] = some (l, m, aa, zz, most, d, s, (i : Int), costI Wp l m i, (hopsR l m i).map (fun (q : Nat) => (q : Int))) := by
  obtain ⟨l1, l2⟩ := hF.len
  have hlt := hR.lt
  have hr := hF.right (show i < l.length by omega)
  have hm := hF.nest.hm
  unfold camshaftref09_way.j0 costI hopsR opAt
  simp only [Int.toNat_natCast, next_ix (show i < 1000000 by omega), if_pos (in_ix (show i < l.length by omega)), if_pos (in_ix (show i < m.length by omega))]
  by_cases h19 : (l.getD i (0, 0, 0)).1 = 19
  · rw [if_pos (show ((l.getD i (0, 0, 0)).1 == 19) = true by simpa only [beq_iff_eq] using h19), if_pos h19, if_neg (by omega), jump_ix (by omega) (show i < l.length by omega) hr (.inl h19)]
    rfl
  · rw [if_neg (show ¬ ((l.getD i (0, 0, 0)).1 == 19) = true by simpa only [beq_iff_eq] using h19), if_neg h19]
    by_cases h20 : (l.getD i (0, 0, 0)).1 = 20
    · rw [if_pos (show ((l.getD i (0, 0, 0)).1 == 20) = true by simpa only [beq_iff_eq] using h20), if_pos h20, if_neg (by omega), jump_ix (by omega) (show i < l.length by omega) hr (.inr h20)]
      rfl
    · rw [if_neg (show ¬ ((l.getD i (0, 0, 0)).1 == 20) = true by simpa only [beq_iff_eq] using h20), if_neg h20]
      by_cases h21 : (l.getD i (0, 0, 0)).1 = 21
      · rw [if_pos (show ((l.getD i (0, 0, 0)).1 == 21) = true by simpa only [beq_iff_eq] using h21), if_pos h21, if_pos h21]
        obtain ⟨w1, w2, w3⟩ := hW h21
        obtain ⟨j, j1, j2, j3⟩ := hR.loop i hi hi2 (isOpen_iff.2 (.inl h21))
        have hj : mN m i = j := by unfold mN; rw [j1]; rfl
        have hA : 1 ≤ argA l i ∧ argA l i ≤ 1000 := by
          unfold argA
          generalize l.getD i (0, 0, 0) = x at *
          obtain ⟨o, A, B⟩ := x
          simp only at h21
          subst h21
          exact right21 hr
        rw [hj] at w1 w2 w3 ⊢
        simp only [j1, w1, Option.bind_some, next_ix (show j < 1000000 by omega)]
        generalize Wp (i + 1) j = w at w2 w3 ⊢
        rw [wrap_id (e := w + 1) (by omega) (by omega)]
        unfold loopI addI argA at *
        generalize (l.getD i (0, 0, 0)).2.1 = A at hA ⊢
        by_cases hw : w + 1 ≤ 1048576
        · have hb : 0 ≤ A * (w + 1) ∧ A * (w + 1) ≤ 1000 * 1048577 := ⟨Int.mul_nonneg (by omega) (by omega), Int.mul_le_mul hA.2 (by omega) (by omega) (by decide)⟩
          rw [if_pos (decide_eq_true hw), wrap_id (e := A * (w + 1)) (by omega) (by omega), wrap_id (by omega) (by omega), cut_is, if_neg (show ¬ (1048577 < w + 1) by omega), if_neg (show ¬ (w + 1 = 1048577) by omega)]
          rfl
        · have : w = 1048576 ∨ w = 1048577 := by omega
          rw [if_neg (by simpa using hw)]
          rcases this with rfl | rfl <;> rfl
      · rw [if_neg (show ¬ ((l.getD i (0, 0, 0)).1 == 21) = true by simpa only [beq_iff_eq] using h21), if_neg h21, if_neg h21]
        rfl
theorem bI_most : bI true = bM := rfl
theorem bI_least : bI false = bL := rfl
theorem ref_j1w (n : Nat) (W : WR) {l : List Ins} {m ks : List Int} {a z : Nat} (hz : z < 1000000) {i : Nat} (hi : a ≤ i) (hi2 : i < z) (most : Bool) {d : List Int} {s : List Bool} {D : Nat → Int} (hL : LQ d s D a z) (hD : ∀ k, StepsI (D k)) (hDi : D i ≠ -1) {c : Int} (hc : 0 ≤ c ∧ c ≤ 1048577) {k q : Nat} (hk : k < ks.length) (hk2 : k < 1000000) (hq : ks.getD k 0 = (q : Int)) (haq : a ≤ q) (hqz : q ≤ z) (zz : Int) :
    ∃ d' s', LQ d' s' (putI (bI most) D q (addI (D i) c)) a z ∧ camshaftref09_way.j1 n W l m (a : Int) zz most d s (i : Int) c ks (k : Int) = some (l, m, (a : Int), zz, most, d', s', (i : Int), c, ks, (k : Int)) := by
  have h1 := hL.dl
  have h2 := hL.sl
  have hDi2 : 0 ≤ D i ∧ D i ≤ 1048577 := by
    rcases hD i with h | h
    · exact absurd h hDi
    · exact h
  have hv := addI_ok hDi2.1 hc.1
  have hati := (hL.at_ i hi (by omega)).1
  rw [if_neg hDi] at hati
  obtain ⟨g1, g2⟩ := hL.at_ q haq hqz
  unfold camshaftref09_way.j1
  simp only [Int.toNat_natCast, if_pos (in_ix hk), cut_ix hi (show i < 1000000 by omega), hati, hq, cut_ix haq (show q < 1000000 by omega), if_pos (in_ix (show i - a < d.length by omega)), if_pos (in_ix (show q - a < d.length by omega)), if_pos (in_ix (show q - a < s.length by omega)), cut_is, Option.bind_some, g1, g2]
  rw [wrap_id (e := D i + c) (by omega) (by omega)]
  have hx : (if 1048577 < D i + c then 1048577 else D i + c) = addI (D i) c := rfl
  rw [hx]
  generalize addI (D i) c = v at hv ⊢
  by_cases hn : D q = -1
  · refine ⟨_, _, hL.put (bI most) haq hqz (x := v) (by rw [if_pos hn]) (by omega), ?_⟩
    rw [if_pos (by rw [hn]; rfl)]
  · rw [if_neg (show ¬ (!(D q != -1)) = true by rw [bne_iff_ne.2 hn]; decide), if_neg hn]
    cases most
    · rw [if_neg (show ¬ false = true by decide), if_pos (show (!false) = true from rfl)]
      by_cases hg : v < D q
      · refine ⟨_, _, hL.put (bI false) haq hqz (x := v) (by rw [if_neg hn, bI_least]; unfold bL; rw [if_pos hg]) (by omega), ?_⟩
        rw [if_pos (decide_eq_true hg)]
      · refine ⟨_, _, hL.same (bI false) hn (by rw [bI_least]; unfold bL; rw [if_neg hg]), ?_⟩
        rw [if_neg (by simpa using hg)]
    · rw [if_pos (show true = true from rfl), if_neg (show ¬ (!true) = true by decide)]
      by_cases hg : v > D q
      · refine ⟨_, _, hL.put (bI true) haq hqz (x := v) (by rw [if_neg hn, bI_most]; unfold bM; rw [if_pos hg]) (by omega), ?_⟩
        rw [if_pos (decide_eq_true hg)]
      · refine ⟨_, _, hL.same (bI true) hn (by rw [bI_most]; unfold bM; rw [if_neg hg]), ?_⟩
        rw [if_neg (by simpa using hg)]
end Go.Proofs.Dk

/- Plain: the steps of ways, as the document says, on. -/
namespace Go.Proofs.Dk
open Go
set_option maxRecDepth 100000
set_option linter.unusedVariables false
set_option linter.unusedSimpArgs false
theorem ref_hands (n : Nat) (W : WR) {l : List Ins} {m : List Int} {a z : Nat} (hz : z < 1000000) {i : Nat} (hi : a ≤ i) (hi2 : i < z) (most : Bool) {c : Int} (hc : 0 ≤ c ∧ c ≤ 1048577) {ks : List Nat} (hks : ∀ q ∈ ks, i < q ∧ q ≤ z) (hkl : ks.length < 1000) (zz : Int) {v : Int} : ∀ (fu k : Nat) {d : List Int} {s : List Bool} {D : Nat → Int}, LQ d s D a z → (∀ k, StepsI (D k)) → D i ≠ -1 → v = addI (D i) c → k ≤ ks.length → ks.length < fu + k → ∃ d' s', LQ d' s' ((ks.drop k).foldl (fun g q => putI (bI most) g q v) D) a z ∧
    it (fun F (x : (List (Int × (Int × Int))) × (List Int) × Int × Int × Bool × (List Int) × (List Bool) × Int × Int × (List Int) × Int) => camshaftref09_way.b2 n W F x.1 x.2.1 x.2.2.1 x.2.2.2.1 x.2.2.2.2.1 x.2.2.2.2.2.1 x.2.2.2.2.2.2.1 x.2.2.2.2.2.2.2.1 x.2.2.2.2.2.2.2.2.1 x.2.2.2.2.2.2.2.2.2.1 x.2.2.2.2.2.2.2.2.2.2) fu (l, m, (a : Int), zz, most, d, s, (i : Int), c, ks.map (fun (q : Nat) => (q : Int)), (k : Int)) = some (l, m, (a : Int), zz, most, d', s', (i : Int))
  | 0, k, d, s, D, hL, hD, hDi, hv, hk, hf => by omega
  | fu + 1, k, d, s, D, hL, hD, hDi, hv, hk, hf => by
    have ih := fun {d : List Int} {s : List Bool} {D : Nat → Int} => ref_hands n W (l := l) (m := m) hz hi hi2 most hc hks hkl zz (v := v) fu (k + 1) (d := d) (s := s) (D := D)
    show ∃ d' s', _ ∧ camshaftref09_way.b2 n W (it _ fu) l m (a : Int) zz most d s (i : Int) c (ks.map (fun (q : Nat) => (q : Int))) (k : Int) = _
    generalize it (fun F (x : (List (Int × (Int × Int))) × (List Int) × Int × Int × Bool × (List Int) × (List Bool) × Int × Int × (List Int) × Int) => camshaftref09_way.b2 n W F x.1 x.2.1 x.2.2.1 x.2.2.2.1 x.2.2.2.2.1 x.2.2.2.2.2.1 x.2.2.2.2.2.2.1 x.2.2.2.2.2.2.2.1 x.2.2.2.2.2.2.2.2.1 x.2.2.2.2.2.2.2.2.2.1 x.2.2.2.2.2.2.2.2.2.2) fu = F at ih ⊢
    unfold camshaftref09_way.b2
    rcases Nat.lt_or_ge k ks.length with hlt | hge
    · have hd : ks.drop k = ks[k] :: ks.drop (k + 1) := List.drop_eq_getElem_cons hlt
      have hg : (ks.map (fun (q : Nat) => (q : Int))).getD k 0 = ((ks[k] : Nat) : Int) := by
        rw [List.getD_eq_getElem?_getD, List.getElem?_map, List.getElem?_eq_getElem hlt]
        rfl
      have hq := hks _ (List.getElem_mem hlt)
      rw [hd, List.foldl_cons]
      generalize ks[k] = q at hg hq ⊢
      obtain ⟨d1, s1, k1, k2⟩ := ref_j1w n W (l := l) (m := m) hz hi hi2 most hL hD hDi hc (k := k) (q := q) (by rw [List.length_map]; exact hlt) (by omega) hg (by omega) hq.2 zz
      have hDi2 : 0 ≤ D i := by
        rcases hD i with h | h
        · exact absurd h hDi
        · exact h.1
      have same : putI (bI most) D q (addI (D i) c) i = D i := by
        unfold putI
        rw [if_neg (by omega)]
      rw [if_pos (decide_eq_true (by rw [List.length_map]; omega)), k2, Option.bind_some]
      simp only
      rw [next_ix (by omega), hv]
      rw [hv] at ih
      exact ih k1 (putI_ok (bI_bet most) hD q (addI_ok hDi2 hc.1)) (by rw [same]; exact hDi) (by rw [same]) (by omega) (by omega)
    · have : k = ks.length := by omega
      subst this
      rw [if_neg (by simp), List.drop_length]
      exact ⟨d, s, hL, rfl⟩
theorem ref_run (n : Nat) (hn : 3 < n) (W : WR) {l : List Ins} {m h : List Int} (hF : Fine l m h) {Wp : Nat → Nat → Int} {a z : Nat} (hR : Reg l m a z) (most : Bool) (hW : ∀ i, a ≤ i → i < z → opAt l i = 21 → W ((l, m, ((i + 1 : Nat) : Int), ((mN m i : Nat) : Int), most, ()), ()) = some (Wp (i + 1) (mN m i)) ∧ 0 ≤ Wp (i + 1) (mN m i) ∧ Wp (i + 1) (mN m i) ≤ 1048577) : ∀ (f i : Nat) {d : List Int} {s : List Bool} {D : Nat → Int}, LQ d s D a z → (∀ k, StepsI (D k)) → a ≤ i → i ≤ z → z < f + i → ∃ d' s', LQ d' s' (runW (bI most) Wp l m (z - i) i D) a z ∧
    it (fun F (x : (List (Int × (Int × Int))) × (List Int) × Int × Int × Bool × (List Int) × (List Bool) × Int) => camshaftref09_way.b3 n W F x.1 x.2.1 x.2.2.1 x.2.2.2.1 x.2.2.2.2.1 x.2.2.2.2.2.1 x.2.2.2.2.2.2.1 x.2.2.2.2.2.2.2) f (l, m, (a : Int), (z : Int), most, d, s, (i : Int)) = some ((a : Int), (z : Int), d')
  | 0, i, d, s, D, hL, hD, h1, h2, hf => by omega
  | f + 1, i, d, s, D, hL, hD, h1, h2, hf => by
    have ih := fun {d : List Int} {s : List Bool} {D : Nat → Int} => ref_run n hn W hF hR most hW f (i + 1) (d := d) (s := s) (D := D)
    show ∃ d' s', _ ∧ camshaftref09_way.b3 n W (it _ f) l m (a : Int) (z : Int) most d s (i : Int) = _
    generalize it (fun F (x : (List (Int × (Int × Int))) × (List Int) × Int × Int × Bool × (List Int) × (List Bool) × Int) => camshaftref09_way.b3 n W F x.1 x.2.1 x.2.2.1 x.2.2.2.1 x.2.2.2.2.1 x.2.2.2.2.2.1 x.2.2.2.2.2.2.1 x.2.2.2.2.2.2.2) f = F at ih ⊢
    obtain ⟨l1, l2⟩ := hF.len
    have hlt := hR.lt
    have hsl := hL.sl
    unfold camshaftref09_way.b3
    rcases Nat.lt_or_ge i z with hiz | hge
    · have hat := (hL.at_ i h1 (by omega)).2
      have hWi : opAt l i = 21 → StepsI (Wp (i + 1) (mN m i)) := fun h => .inr (hW i h1 hiz h).2
      have hD' := stepW_ok (bI_bet most) hD (hF.right (show i < l.length by omega)) hWi
      rw [if_pos (decide_eq_true (by omega))]
      simp only [cut_ix h1 (show i < 1000000 by omega), Int.toNat_natCast, if_pos (in_ix (show i - a < s.length by omega)), hat, next_ix (show i < 1000000 by omega)]
      rw [show z - i = (z - (i + 1)) + 1 by omega]
      by_cases hn1 : D i = -1
      · have e : runW (bI most) Wp l m (z - (i + 1) + 1) i D = runW (bI most) Wp l m (z - (i + 1)) (i + 1) D := by
          show runW (bI most) Wp l m (z - (i + 1)) (i + 1) (stepW (bI most) Wp l m i D) = _
          unfold stepW
          rw [if_pos hn1]
        rw [if_pos (by rw [hn1]; rfl), e]
        exact ih hL hD (by omega) (by omega) (by omega)
      · rw [if_neg (by rw [bne_iff_ne.2 hn1]; decide), ref_j0w n W hF hR h1 hiz (hW i h1 hiz) d s (a : Int) (z : Int), Option.bind_some]
        have hc := costI_ok (hF.right (show i < l.length by omega)) hWi
        obtain ⟨d1, s1, k1, k2⟩ := ref_hands n W (l := l) (m := m) (by omega) h1 hiz most hc (hopsR_in hR h1 hiz) (by have := hopsR_len l m i; omega) (z : Int) n 0 hL hD hn1 rfl (Nat.zero_le _) (by have := hopsR_len l m i; omega)
        rw [show ((0 : Nat) : Int) = 0 from rfl] at k2
        unfold camshaftref09_way.b2.l
        simp only
        rw [k2, Option.bind_some]
        simp only
        rw [next_ix (by omega)]
        rw [List.drop_zero, hopsR_eq] at k1
        have e : (hopsI l m i).foldl (fun g k => putI (bI most) g k (addI (D i) (costI Wp l m i))) D = stepW (bI most) Wp l m i D := by
          unfold stepW
          rw [if_neg hn1]
        rw [e] at k1
        exact ih k1 hD' (by omega) (by omega) (by omega)
    · have : i = z := by omega
      subst this
      rw [if_neg (by simp), Nat.sub_self]
      exact ⟨d, s, hL, rfl⟩
theorem ref_s (n : Nat) (hn3 : 3 < n) (W : WR) {l : List Ins} {m h : List Int} (hF : Fine l m h) (hn : l.length < n) {Wp : Nat → Nat → Int} {a z : Nat} (hR : Reg l m a z) (most : Bool) (hW : ∀ i, a ≤ i → i < z → opAt l i = 21 → W ((l, m, ((i + 1 : Nat) : Int), ((mN m i : Nat) : Int), most, ()), ()) = some (Wp (i + 1) (mN m i)) ∧ 0 ≤ Wp (i + 1) (mN m i) ∧ Wp (i + 1) (mN m i) ≤ 1048577) (hend : runW (bI most) Wp l m (z - a) a (startW a) z ≠ -1) :
    camshaftref09_way.s n W l m (a : Int) (z : Int) most = some (runW (bI most) Wp l m (z - a) a (startW a) z) := by
  obtain ⟨l1, l2⟩ := hF.len
  have hle := hR.le
  have hlt := hR.lt
  unfold camshaftref09_way.s camshaftref09_way.b3.l
  have c1 : (decide (0 ≤ ((z - a + 1 : Nat) : Int)) && (((z - a + 1 : Nat) : Int) == ((z - a + 1 : Nat) : Int)) && decide (((z - a + 1 : Nat) : Int) * (8 : Int) ≤ 140737488355328) && decide (1 ≤ 8)) = true := by simp; omega
  have c2 : (decide (0 ≤ ((z - a + 1 : Nat) : Int)) && (((z - a + 1 : Nat) : Int) == ((z - a + 1 : Nat) : Int)) && decide (((z - a + 1 : Nat) : Int) * (1 : Int) ≤ 140737488355328) && decide (1 ≤ 1)) = true := by simp; omega
  simp only [isub_ix hle (show z < 1000000 by omega), Int.toNat_natCast, List.length_replicate]
  rw [if_pos c1, if_pos c2, if_pos (by simp)]
  have h0 : LQ (List.replicate (z - a + 1) 0) ((List.replicate (z - a + 1) false).set 0 true) (startW a) a z := by
    refine ⟨by simp, by simp, fun k k1 k2 => ?_⟩
    rw [getD_setB (by simp)]
    unfold startW
    simp only [List.getD_eq_getElem?_getD, List.getElem?_replicate]
    have h3 : k - a < z - a + 1 := by omega
    by_cases e : k = a
    · subst e
      simp
    · have e3 : ¬ (k - a = 0) := by omega
      simp [h3, e3, e]
  obtain ⟨d', s', k1, k2⟩ := ref_run n hn3 W hF hR most hW n a h0 (startW_ok a) (Nat.le_refl _) hle (by omega)
  rw [k2, Option.bind_some]
  simp only [cut_ix hle (show z < 1000000 by omega), Int.toNat_natCast]
  rw [if_pos (in_ix (by rw [k1.dl]; omega)), (k1.at_ z hle (Nat.le_refl _)).1, if_neg hend]
theorem ref_it (n : Nat) (hn3 : 3 < n) {l : List Ins} {m h : List Int} (hF : Fine l m h) (hS : Come l) (hn : l.length < n) (most : Bool) : ∀ (g : Nat) {a z : Nat}, Way l m a z → z - a < g →
    it (fun (W : WR) x => camshaftref09_way.s n W x.1.1 x.1.2.1 x.1.2.2.1 x.1.2.2.2.1 x.1.2.2.2.2.1) g ((l, m, (a : Int), (z : Int), most, ()), ()) = some (wayF (bI most) l m g a z)
  | 0, a, z, hR, hg => by omega
  | g + 1, a, z, hR, hg => by
    have hlt := hR.reg.lt
    have ih := fun {a z : Nat} => ref_it n hn3 hF hS hn most g (a := a) (z := z)
    show camshaftref09_way.s n (it _ g) l m (a : Int) (z : Int) most = _
    refine ref_s n hn3 _ hF hn hR.reg most (fun i h1 h2 h3 => ?_) (fun h => ?_)
    · have ho := isOpen_iff.2 (Or.inl (b := opAt l i = 23) h3)
      have hRi := hF.way (show i < l.length by omega) ho
      obtain ⟨j, j1, j2, j3⟩ := hR.reg.loop i h1 h2 ho
      have hj : mN m i = j := by unfold mN; rw [j1]; rfl
      exact ⟨ih hRi (by omega), way_reach (bI_bet most) hF hS g hRi⟩
    · have := (way_reach (bI_bet most) hF hS (g + 1) hR).1
      rw [show wayF (bI most) l m (g + 1) a z = runW (bI most) (wayF (bI most) l m g) l m (z - a) a (startW a) z from rfl, h] at this
      omega
theorem ref_way_is (n : Nat) (hn3 : 3 < n) {l : List Ins} {m h : List Int} (hF : Fine l m h) (hS : Come l) (hn : l.length < n) (most : Bool) {a z : Nat} (hR : Way l m a z) : camshaftref09_way.f n l m (a : Int) (z : Int) most = some (wayF (bI most) l m n a z) := by
  have := hR.reg.lt
  exact ref_it n hn3 hF hS hn most n hR (by omega)
end Go.Proofs.Dk

/- Plain: steps of rows, sections. -/
namespace Go.Proofs.Dk
open Go
set_option maxRecDepth 100000
set_option linter.unusedVariables false
set_option linter.unusedSimpArgs false
noncomputable def allI (b : Int → Int → Int) (n : Nat) (l : List Ins) : Int × Int :=
  if locksI l ≠ 0 then (0, locksI l) else if stacksI l ≠ 0 then (0, stacksI l)
  else if addI (wayF b l (scanI l).1 n 0 (l.length - 1)) 1 = 1048577 then (0, 4) else (addI (wayF b l (scanI l).1 n 0 (l.length - 1)) 1, 0)
theorem locks_whole {l : List Ins} (h : locksI l = 0) : wholeI l = 0 := by
  unfold locksI at h
  split at h
  · exact h
  · rename_i h1
    by_cases e : wholeI l = 0
    · exact e
    · exact absurd e h1
theorem len1_ix {k : Nat} (h : 0 < k) (h2 : k < 1000000) : IntKind.wrap .i64 ((k : Int) - 1) = ((k - 1 : Nat) : Int) := last_ix h h2

theorem allmost_is (n : Nat) (l : List Ins) (hl : l.length < n) (hn3 : 3 < n) (hn : n < 1000000) : cost_all_most.f n l = some (allI bM n l) := by
  obtain ⟨o1, h1⟩ := locks_is n l hl hn
  obtain ⟨o2, h2⟩ := stacks_is n l hl hn3 hn
  unfold cost_all_most.f allI
  rw [h1, Option.bind_some]
  by_cases hk : locksI l = 0
  · have hw := locks_whole hk
    have hs := whole_scan hw
    have hF := whole_fine hw
    obtain ⟨l1, l2⟩ := hF.len
    rw [if_neg (fun h => (bne_iff_ne.1 h) hk), if_neg (show ¬ (locksI l ≠ 0) from fun h => h hk), h2, Option.bind_some]
    by_cases ht : stacksI l = 0
    · have hS := (come_is ht).2
      rw [if_neg (fun h => (bne_iff_ne.1 h) ht), if_neg (show ¬ (stacksI l ≠ 0) from fun h => h ht), match_is n l hl hn, Option.bind_some]
      simp only
      have hwy := way_reach bM_bet hF hS n hF.wayAll
      have hw1 := most_is n hF hl hF.all
      rw [show ((0 : Nat) : Int) = 0 from rfl] at hw1
      rw [if_neg (fun h => (bne_iff_ne.1 h) hs), len1_ix l1 (by omega), hw1, Option.bind_some, costadd_is n (by omega) hwy.2 (by decide) (by decide), Option.bind_some]
      generalize addI (wayF bM l (scanI l).1 n 0 (l.length - 1)) 1 = w
      by_cases e : w = 1048577
      · rw [if_pos e, if_pos (by simpa only [beq_iff_eq] using e)]
      · rw [if_neg e, if_neg (by simpa only [beq_iff_eq] using e)]
    · rw [if_pos (show (stacksI l != 0) = true from bne_iff_ne.2 ht), if_pos (show (stacksI l != 0) = true from bne_iff_ne.2 ht), if_pos ht]
  · rw [if_pos (show (locksI l != 0) = true from bne_iff_ne.2 hk), if_pos (show (locksI l != 0) = true from bne_iff_ne.2 hk), if_pos hk]

theorem worst_is (n : Nat) (l : List Ins) (hl : l.length < n) (hn3 : 3 < n) (hn : n < 1000000) : cost_Worst.f n l = some (allI bM n l) := by
  unfold cost_Worst.f
  rw [allmost_is n l hl hn3 hn]
  rfl
theorem ref_all_is (n : Nat) (l : List Ins) (hi : InR l) (hl : l.length < n) (hn3 : 3 < n) (hn : n < 1000000) (most : Bool) : camshaftref09_all.f n l most = some (allI (bI most) n l) := by
  obtain ⟨o1, h1⟩ := ref_locks_is n l hi hl hn
  obtain ⟨o2, h2⟩ := ref_stacks_is n l hi hl hn3 hn
  unfold camshaftref09_all.f camshaftref09_bad.f allI
  rw [h1, Option.bind_some]
  by_cases hk : locksI l = 0
  · have hw := locks_whole hk
    have hs := whole_scan hw
    have hF := whole_fine hw
    obtain ⟨l1, l2⟩ := hF.len
    rw [if_neg (fun h => (bne_iff_ne.1 h) hk), if_neg (show ¬ (locksI l ≠ 0) from fun h => h hk), h2, Option.bind_some, Option.bind_some]
    by_cases ht : stacksI l = 0
    · have hS := (come_is ht).2
      rw [if_neg (fun h => (bne_iff_ne.1 h) ht), if_neg (show ¬ (stacksI l ≠ 0) from fun h => h ht), ref_match_is n l hi hl hn, Option.bind_some]
      simp only
      have hwy := way_reach (bI_bet most) hF hS n hF.wayAll
      have hw1 := ref_way_is n hn3 hF hS hl most hF.wayAll
      rw [show ((0 : Nat) : Int) = 0 from rfl] at hw1
      rw [len1_ix l1 (by omega), hw1, Option.bind_some]
      generalize wayF (bI most) l (scanI l).1 n 0 (l.length - 1) = w at hwy
      rw [wrap_id (by omega) (by omega)]
      unfold addI
      by_cases e : w + 1 > 1048576
      · rw [if_pos (decide_eq_true e), if_pos (by omega)]
      · rw [if_neg (by simpa using e), if_neg (by omega), if_neg (by omega)]
    · rw [if_pos (show (stacksI l != 0) = true from bne_iff_ne.2 ht), if_pos ht]
  · rw [if_pos (show (locksI l != 0) = true from bne_iff_ne.2 hk), if_pos hk, Option.bind_some, if_pos (show (locksI l != 0) = true from bne_iff_ne.2 hk)]
theorem ref_worst_is (n : Nat) (l : List Ins) (hi : InR l) (hl : l.length < n) (hn3 : 3 < n) (hn : n < 1000000) : camshaftref09_Worst.f n l = some (allI bM n l) := by
  unfold camshaftref09_Worst.f
  rw [ref_all_is n l hi hl hn3 hn true]
  rfl
def sectS (l : List Ins) (m : List Int) (n : Nat) : Nat → Nat → List (Int × Int)
  | 0, _ => []
  | r + 1, i => (if opAt l i = 23 then [(argA l i, wayF bM l m n (i + 1) (mN m i) + 1)] else []) ++ sectS l m n r (i + 1)
noncomputable def sectI (n : Nat) (l : List Ins) : List (Int × Int) × Int := if (allI bM n l).2 ≠ 0 then ([], (allI bM n l).2) else (sectS l (scanI l).1 n l.length 0, 0)
theorem sect_loop (n : Nat) {l : List Ins} {m h : List Int} (hF : Fine l m h) (hn : l.length < n) : ∀ (f i : Nat) {o : List (Int × Int)}, o.length ≤ i → i ≤ l.length → l.length < f + i →
    it (fun F (x : (List (Int × Int)) × (List (Int × (Int × Int))) × Int × Int × (List (Int × (Int × Int))) × (List Int)) => cost_Sections.b0 n F x.1 x.2.1 x.2.2.1 x.2.2.2.1 x.2.2.2.2.1 x.2.2.2.2.2) f (o, l, (l.length : Int), (i : Int), l, m) = some (o ++ sectS l m n (l.length - i) i, l, m)
  | 0, i, o, ho, hi, hf => by omega
  | f + 1, i, o, ho, hi, hf => by
    have ih := fun {o : List (Int × Int)} => sect_loop n hF hn f (i + 1) (o := o)
    show cost_Sections.b0 n (it _ f) o l (l.length : Int) (i : Int) l m = _
    generalize it (fun F (x : (List (Int × Int)) × (List (Int × (Int × Int))) × Int × Int × (List (Int × (Int × Int))) × (List Int)) => cost_Sections.b0 n F x.1 x.2.1 x.2.2.1 x.2.2.2.1 x.2.2.2.2.1 x.2.2.2.2.2) f = F at ih ⊢
    obtain ⟨l1, l2⟩ := hF.len
    unfold cost_Sections.b0
    rcases Nat.lt_or_ge i l.length with hlt | hge
    · rw [if_pos (decide_eq_true (by omega)), if_pos (in_ix hlt), Int.toNat_natCast, next_ix (by omega), show l.length - i = (l.length - (i + 1)) + 1 by omega]
      rw [show sectS l m n (l.length - (i + 1) + 1) i = (if opAt l i = 23 then [(argA l i, wayF bM l m n (i + 1) (mN m i) + 1)] else []) ++ sectS l m n (l.length - (i + 1)) (i + 1) from rfl]
      by_cases h23 : (l.getD i (0, 0, 0)).1 = 23
      · rw [if_pos (show ((l.getD i (0, 0, 0)).1 == 23) = true by simpa only [beq_iff_eq] using h23), if_pos (show opAt l i = 23 from h23), if_pos (in_ix (by rw [hF.nest.hm]; exact hlt))]
        have ho2 : isOpen l i = true := isOpen_iff.2 (.inr h23)
        obtain ⟨j, j1, j2, j3⟩ := hF.nest.open_ i hlt ho2
        have hj : mN m i = j := by unfold mN; rw [j1]; rfl
        have hR := hF.reg hlt ho2
        rw [hj] at hR ⊢
        have hwy := wayF_ok bM_bet hF n hR
        rw [j1, sect_is n hF hn hR, Option.bind_some, if_pos (by simp; omega)]
        have hwr : IntKind.wrap .i64 (wayF bM l m n (i + 1) j + 1) = wayF bM l m n (i + 1) j + 1 := by
          rcases hwy with h | h
          · rw [h]; rfl
          · exact wrap_id (by omega) (by omega)
        rw [hwr, ih (by simp; omega) (by omega) (by omega), List.append_assoc]
      · rw [if_neg (show ¬ ((l.getD i (0, 0, 0)).1 == 23) = true by simpa only [beq_iff_eq] using h23), if_neg (show ¬ opAt l i = 23 from h23), ih (by omega) (by omega) (by omega), List.nil_append]
    · have : i = l.length := by omega
      subst this
      rw [if_neg (by simp), Nat.sub_self]
      simp [sectS]
theorem all_zero {b : Int → Int → Int} {n : Nat} {l : List Ins} (h : (allI b n l).2 = 0) : locksI l = 0 ∧ stacksI l = 0 := by
  unfold allI at h
  by_cases h1 : locksI l = 0
  · rw [if_neg (show ¬ (locksI l ≠ 0) from fun h => h h1)] at h
    by_cases h2 : stacksI l = 0
    · exact ⟨h1, h2⟩
    · rw [if_pos h2] at h
      exact absurd h h2
  · rw [if_pos h1] at h
    exact absurd h h1
theorem sections_is (n : Nat) (l : List Ins) (hl : l.length < n) (hn3 : 3 < n) (hn : n < 1000000) : cost_Sections.f n l = some (sectI n l) := by
  unfold cost_Sections.f sectI
  rw [worst_is n l hl hn3 hn, Option.bind_some]
  by_cases h0 : (allI bM n l).2 = 0
  · obtain ⟨hk, ht⟩ := all_zero h0
    obtain ⟨o1, h1⟩ := locks_is n l hl hn
    obtain ⟨o2, h2⟩ := stacks_is n l hl hn3 hn
    have hF := whole_fine (locks_whole hk)
    have hlp := sect_loop n hF hl n 0 (o := []) (Nat.zero_le _) (Nat.zero_le _) (by omega)
    rw [show ((0 : Nat) : Int) = 0 from rfl, Nat.sub_zero] at hlp
    unfold cost_Sections.b0.l
    rw [if_neg (fun h => (bne_iff_ne.1 h) h0), if_neg (show ¬ ((allI bM n l).2 ≠ 0) from fun h => h h0), h1, Option.bind_some, if_neg (fun h => (bne_iff_ne.1 h) hk), h2, Option.bind_some, if_neg (fun h => (bne_iff_ne.1 h) ht), match_is n l hl hn, Option.bind_some]
    simp only
    rw [hlp, Option.bind_some, List.nil_append]
  · rw [if_pos (bne_iff_ne.2 h0), if_pos h0]
theorem refsect_loop (n : Nat) (hn3 : 3 < n) {l : List Ins} {m h : List Int} (hF : Fine l m h) (hS : Come l) (hn : l.length < n) : ∀ (f i : Nat) {o : List (Int × Int)}, o.length ≤ i → i ≤ l.length → l.length < f + i →
    it (fun F (x : (List (Int × (Int × Int))) × (List Int) × (List (Int × Int)) × Int) => camshaftref09_Sections.b0 n F x.1 x.2.1 x.2.2.1 x.2.2.2) f (l, m, o, (i : Int)) = some (o ++ sectS l m n (l.length - i) i)
  | 0, i, o, ho, hi, hf => by omega
  | f + 1, i, o, ho, hi, hf => by
    have ih := fun {o : List (Int × Int)} => refsect_loop n hn3 hF hS hn f (i + 1) (o := o)
    show camshaftref09_Sections.b0 n (it _ f) l m o (i : Int) = _
    generalize it (fun F (x : (List (Int × (Int × Int))) × (List Int) × (List (Int × Int)) × Int) => camshaftref09_Sections.b0 n F x.1 x.2.1 x.2.2.1 x.2.2.2) f = F at ih ⊢
    obtain ⟨l1, l2⟩ := hF.len
    unfold camshaftref09_Sections.b0
    rcases Nat.lt_or_ge i l.length with hlt | hge
    · rw [if_pos (decide_eq_true (by omega)), if_pos (in_ix hlt), Int.toNat_natCast, next_ix (by omega), show l.length - i = (l.length - (i + 1)) + 1 by omega]
      rw [show sectS l m n (l.length - (i + 1) + 1) i = (if opAt l i = 23 then [(argA l i, wayF bM l m n (i + 1) (mN m i) + 1)] else []) ++ sectS l m n (l.length - (i + 1)) (i + 1) from rfl]
      by_cases h23 : (l.getD i (0, 0, 0)).1 = 23
      · rw [if_pos (show ((l.getD i (0, 0, 0)).1 == 23) = true by simpa only [beq_iff_eq] using h23), if_pos (show opAt l i = 23 from h23), if_pos (in_ix hlt), if_pos (in_ix (by rw [hF.nest.hm]; exact hlt))]
        have ho2 : isOpen l i = true := isOpen_iff.2 (.inr h23)
        obtain ⟨j, j1, j2, j3⟩ := hF.nest.open_ i hlt ho2
        have hj : mN m i = j := by unfold mN; rw [j1]; rfl
        have hR := hF.way hlt ho2
        rw [hj] at hR ⊢
        have hwy := way_reach bM_bet hF hS n hR
        rw [j1, ref_way_is n hn3 hF hS hn true hR, Option.bind_some, if_pos (by simp; omega), bI_most, wrap_id (e := wayF bM l m n (i + 1) j + 1) (by omega) (by omega), ih (by simp; omega) (by omega) (by omega), List.append_assoc]
      · rw [if_neg (show ¬ ((l.getD i (0, 0, 0)).1 == 23) = true by simpa only [beq_iff_eq] using h23), if_neg (show ¬ opAt l i = 23 from h23), ih (by omega) (by omega) (by omega), List.nil_append]
    · have : i = l.length := by omega
      subst this
      rw [if_neg (by simp), Nat.sub_self]
      simp [sectS]
theorem ref_sections_is (n : Nat) (l : List Ins) (hi : InR l) (hl : l.length < n) (hn3 : 3 < n) (hn : n < 1000000) : camshaftref09_Sections.f n l = some (sectI n l) := by
  unfold camshaftref09_Sections.f sectI
  rw [ref_worst_is n l hi hl hn3 hn, Option.bind_some]
  by_cases h0 : (allI bM n l).2 = 0
  · obtain ⟨hk, ht⟩ := all_zero h0
    have hF := whole_fine (locks_whole hk)
    have hlp := refsect_loop n hn3 hF (come_is ht).2 hl n 0 (o := []) (Nat.zero_le _) (Nat.zero_le _) (by omega)
    rw [show ((0 : Nat) : Int) = 0 from rfl, Nat.sub_zero] at hlp
    unfold camshaftref09_Sections.b0.l
    rw [if_neg (fun h => (bne_iff_ne.1 h) h0), if_neg (show ¬ ((allI bM n l).2 ≠ 0) from fun h => h h0), ref_match_is n l hi hl hn, Option.bind_some]
    simp only
    rw [hlp, Option.bind_some, List.nil_append]
  · rw [if_pos (bne_iff_ne.2 h0), if_pos h0]
end Go.Proofs.Dk

/- Plain: rows in which nothing is left out; sections that are alike. -/
namespace Go.Proofs.Dk
open Go
set_option maxRecDepth 100000
set_option linter.unusedVariables false
set_option linter.unusedSimpArgs false
end Go.Proofs.Dk

/- Plain: longest ways: what stands in a way is no longer than it. -/
namespace Go.Proofs.Dk
open Go
set_option maxRecDepth 100000
set_option linter.unusedVariables false
set_option linter.unusedSimpArgs false
theorem StepsI.nn {v : Int} (h : StepsI v) (h1 : v ≠ -1) : 0 ≤ v ∧ v ≤ 1048577 := h.elim (fun h => absurd h h1) id
theorem addI_le {a b c d : Int} (h : a ≤ b) (k : c ≤ d) : addI a c ≤ addI b d := by unfold addI; split <;> split <;> omega
theorem Reg.hop {l : List Ins} {m : List Int} {a z : Nat} (hR : Reg l m a z) {i : Nat} (h1 : a ≤ i) (h2 : i < z) : hopsI l m i ≠ [] ∧ ∀ k ∈ hopsI l m i, i < k ∧ k ≤ z := by
  unfold hopsI
  by_cases h21 : opAt l i = 21
  · rw [if_pos h21]
    obtain ⟨j, j1, j2, j3⟩ := hR.loop i h1 h2 (isOpen_iff.2 (.inl h21))
    refine ⟨by simp, fun k hk => ?_⟩
    have : k = mN m i + 1 := by simpa using hk
    unfold mN at this
    rw [j1] at this
    simp at this
    omega
  · rw [if_neg h21]
    by_cases h19 : opAt l i = 19
    · rw [if_pos h19]
      have := hR.jump i h1 h2 (.inl h19)
      refine ⟨by simp, fun k hk => ?_⟩
      have e : k = jumpTo l i := by simpa using hk
      subst e
      refine ⟨?_, this⟩
      unfold jumpTo
      omega
    · rw [if_neg h19]
      by_cases h20 : opAt l i = 20
      · rw [if_pos h20]
        have := hR.jump i h1 h2 (.inr h20)
        refine ⟨by simp, fun k hk => ?_⟩
        have e : k = jumpTo l i ∨ k = i + 1 := by simpa using hk
        rcases e with e | e
        · subst e
          refine ⟨?_, this⟩
          unfold jumpTo
          omega
        · omega
      · rw [if_neg h20]
        exact ⟨by simp, fun k hk => by
          have e : k = i + 1 := by simpa using hk
          omega⟩
end Go.Proofs.Dk

/- Plain: sections stand in one another. -/
namespace Go.Proofs.Dk
open Go
set_option maxRecDepth 100000
set_option linter.unusedVariables false
set_option linter.unusedSimpArgs false
theorem locks_ok {l : List Ins} (h : locksI l = 0) {i : Nat} (hi : i < l.length) : badI l (scanI l).1 i = false := by
  have hw := locks_whole h
  unfold locksI at h
  rw [if_neg (show ¬ (wholeI l ≠ 0) from fun k => k hw)] at h
  by_cases ha : allF (okQ l (scanI l).1) l.length 0 = true
  · have := allF_iff.1 ha i (Nat.zero_le _) (by omega)
    unfold okQ at this
    simpa using this
  · rw [if_neg ha] at h
    cases h
theorem fine_closed {l : List Ins} (h : locksI l = 0) : Fine l (scanI l).1 (scanI l).2.1 ∧ Closed l (scanI l).1 := ⟨whole_fine (locks_whole h), scanI_closed (whole_scan (locks_whole h))⟩
theorem put_le {D E : Nat → Int} (hD : ∀ k, StepsI (D k)) (hE : ∀ k, StepsI (E k)) (h : ∀ k, (D k = -1 ↔ E k = -1) ∧ D k ≤ E k) {k : Nat} {u v : Int} (huv : u ≤ v) (hu : 0 ≤ u) : ∀ j, (putI bL D k u j = -1 ↔ putI bM E k v j = -1) ∧ putI bL D k u j ≤ putI bM E k v j := fun j => by
  unfold putI
  by_cases e : j = k
  · subst e
    rw [if_pos rfl, if_pos rfl]
    obtain ⟨h1, h2⟩ := h j
    by_cases e2 : D j = -1
    · rw [if_pos e2, if_pos (h1.1 e2)]
      exact ⟨by constructor <;> intro <;> omega, huv⟩
    · have e3 : ¬ E j = -1 := fun k => e2 (h1.2 k)
      rw [if_neg e2, if_neg e3]
      have a1 := ((hD j).nn e2).1
      have a2 := ((hE j).nn e3).1
      unfold bL bM
      split <;> split <;> exact ⟨by constructor <;> intro <;> omega, by omega⟩
  · rw [if_neg e, if_neg e]
    exact h j
theorem puts_le {u v : Int} (huv : u ≤ v) (hu : 0 ≤ u ∧ u ≤ 1048577) (hv : v ≤ 1048577) : ∀ (ks : List Nat) {D E : Nat → Int}, (∀ k, StepsI (D k)) → (∀ k, StepsI (E k)) → (∀ k, (D k = -1 ↔ E k = -1) ∧ D k ≤ E k) → ∀ j, (ks.foldl (fun g k => putI bL g k u) D j = -1 ↔ ks.foldl (fun g k => putI bM g k v) E j = -1) ∧ ks.foldl (fun g k => putI bL g k u) D j ≤ ks.foldl (fun g k => putI bM g k v) E j
  | [], D, E, hD, hE, h, j => h j
  | k :: ks, D, E, hD, hE, h, j => puts_le huv hu hv ks (D := putI bL D k u) (E := putI bM E k v) (putI_ok bL_bet hD k hu) (putI_ok bM_bet hE k ⟨by omega, hv⟩) (put_le hD hE h huv hu.1) j
theorem loopI_le {v w A : Int} (hv : 0 ≤ v) (hvw : v ≤ w) (hw : w ≤ 1048577) (hA : 1 ≤ A) : loopI v A ≤ loopI w A := by
  have key : ∀ x : Int, 0 ≤ x → x ≤ 1048577 → (if x + 1 ≥ 1048577 then loopI x A = 1048577 else loopI x A = min (1 + A * (x + 1)) 1048577) := fun x hx hx2 => by
    unfold loopI
    by_cases h : x + 1 ≥ 1048577
    · rw [if_pos h]
      have : addI x 1 = 1048577 := by unfold addI; split <;> omega
      rw [if_pos this]
    · rw [if_neg h]
      have : addI x 1 = x + 1 := by unfold addI; split <;> omega
      rw [this, if_neg (by omega)]
      unfold addI
      omega
  have k1 := key v hv (by omega)
  have k2 := key w (by omega) hw
  have hm : A * (v + 1) ≤ A * (w + 1) := Int.mul_le_mul_of_nonneg_left (by omega) (by omega)
  have hb : loopI v A ≤ 1048577 := (loopI_cap v A)
  split at k1 <;> split at k2 <;> omega
where
  loopI_cap (v A : Int) : loopI v A ≤ 1048577 := by
    unfold loopI
    split
    · omega
    · unfold addI; split <;> omega
theorem run_le {W W' : Nat → Nat → Int} {l : List Ins} {m : List Int} (hr : ∀ i, i < l.length → rightI (l.getD i (0, 0, 0)) = true) : ∀ (r i : Nat) {D E : Nat → Int}, (∀ k, StepsI (D k)) → (∀ k, StepsI (E k)) → r + i ≤ l.length → (∀ k, i ≤ k → k < r + i → opAt l k = 21 → StepsI (W (k + 1) (mN m k)) ∧ StepsI (W' (k + 1) (mN m k)) ∧ 0 ≤ W (k + 1) (mN m k) ∧ W (k + 1) (mN m k) ≤ W' (k + 1) (mN m k)) → (∀ k, (D k = -1 ↔ E k = -1) ∧ D k ≤ E k) → ∀ j, (runW bL W l m r i D j = -1 ↔ runW bM W' l m r i E j = -1) ∧ runW bL W l m r i D j ≤ runW bM W' l m r i E j
  | 0, i, D, E, hD, hE, hl, hW, h, j => h j
  | r + 1, i, D, E, hD, hE, hl, hW, h, j => by
    have hWi := hW i (Nat.le_refl _) (by omega)
    have hri := hr i (by omega)
    have w1 := costI_ok hri (fun e => (hWi e).1)
    have w2 := costI_ok hri (fun e => (hWi e).2.1)
    have hc : costI W l m i ≤ costI W' l m i := by
      unfold costI
      by_cases e : opAt l i = 21
      · rw [if_pos e, if_pos e]
        obtain ⟨q1, q2, q3, q4⟩ := hWi e
        have hA : 1 ≤ argA l i := by
          have hri' := hri
          rw [show l.getD i (0, 0, 0) = (21, argA l i, (l.getD i (0, 0, 0)).2.2) from by rw [← e]] at hri'
          exact (right21 hri').1
        exact loopI_le q3 q4 (q2.nn (by omega)).2 hA
      · rw [if_neg e, if_neg e]; omega
    refine run_le hr r (i + 1) (stepW_ok bL_bet hD hri (fun e => (hWi e).1)) (stepW_ok bM_bet hE hri (fun e => (hWi e).2.1)) (by omega) (fun k h1 h2 => hW k (by omega) (by omega)) (fun k => ?_) j
    unfold stepW
    by_cases e : D i = -1
    · rw [if_pos e, if_pos ((h i).1.1 e)]
      exact h k
    · have e' : ¬ E i = -1 := fun x => e ((h i).1.2 x)
      rw [if_neg e, if_neg e']
      exact puts_le (addI_le (h i).2 hc) (addI_ok ((hD i).nn e).1 w1.1) (addI_ok ((hE i).nn e').1 w2.1).2 _ hD hE h k
theorem way_le {l : List Ins} {m h : List Int} (hF : Fine l m h) (hS : Come l) : ∀ (f : Nat) {a z : Nat}, Way l m a z → wayF bL l m f a z ≤ wayF bM l m f a z
  | 0, a, z, hR => Int.le_refl _
  | f + 1, a, z, hR => by
    have hlt := hR.reg.lt
    have hle := hR.reg.le
    refine (run_le (fun i hi => hF.right hi) (z - a) a (startW_ok a) (startW_ok a) (by omega) (fun k k1 k2 k3 => ?_) (fun k => ⟨Iff.rfl, Int.le_refl _⟩) z).2
    have hk := hF.way (show k < l.length by omega) (isOpen_iff.2 (.inl k3))
    exact ⟨wayF_ok bL_bet hF f hk.reg, wayF_ok bM_bet hF f hk.reg, (way_reach bL_bet hF hS f hk).1, way_le hF hS f hk⟩
theorem allI_err (n : Nat) (l : List Ins) (h : (allI bM n l).2 = 0) : (allI bL n l).2 = 0 ∧ 1 ≤ (allI bL n l).1 ∧ (allI bL n l).1 ≤ (allI bM n l).1 ∧ (allI bM n l).1 = wayF bM l (scanI l).1 n 0 (l.length - 1) + 1 ∧ (allI bM n l).1 ≤ 1048576 := by
  obtain ⟨h1, h2⟩ := all_zero h
  obtain ⟨hF, hC⟩ := fine_closed h1
  have hS := (come_is h2).2
  have r1 := way_reach bL_bet hF hS n hF.wayAll
  have r2 := way_reach bM_bet hF hS n hF.wayAll
  have r3 := way_le hF hS n hF.wayAll
  unfold allI at h ⊢
  rw [if_neg (show ¬ (locksI l ≠ 0) from fun k => k h1), if_neg (show ¬ (stacksI l ≠ 0) from fun k => k h2)] at h ⊢
  rw [if_neg (show ¬ (locksI l ≠ 0) from fun k => k h1), if_neg (show ¬ (stacksI l ≠ 0) from fun k => k h2)]
  split at h
  · cases h
  · rename_i hne
    rw [if_neg hne]
    unfold addI at hne ⊢
    split at hne
    · exact absurd rfl hne
    · rename_i h5
      rw [if_neg h5, if_neg (show ¬ (1048577 < wayF bL l (scanI l).1 n 0 (l.length - 1) + 1) by omega), if_neg (by omega)]
      exact ⟨rfl, by show 1 ≤ _ + 1; omega, by show _ + 1 ≤ _ + 1; omega, rfl, by show _ + 1 ≤ (1048576 : Int); omega⟩
end Go.Proofs.Dk

/- Plain: rounds; what a task's instructions name. -/
namespace Go.Proofs.Dk
open Go
set_option maxRecDepth 100000
set_option linter.unusedVariables false
set_option linter.unusedSimpArgs false
theorem it_all {X R : Type} {S : (X → Option R) → X → Option R} (Q : Nat → X → R → Prop) (h0 : ∀ x r, ¬ Q 0 x r) (h : ∀ f x F, (∀ y r, Q f y r → F y = some r) → ∀ r, Q (f + 1) x r → S F x = some r) : ∀ f x r, Q f x r → it S f x = some r
  | 0, x, r, hq => absurd hq (h0 x r)
  | f + 1, x, r, hq => h f x (it S f) (it_all Q h0 h f) r hq
abbrev Tsk := Int × Int × Int × Int × List Int × List Int × List Ins
abbrev Img := Int × Int × Int × Int × List Int × List (List Int) × List Tsk
abbrev Tsk.blocks (t : Tsk) : List Int := t.2.2.2.2.1
abbrev Tsk.outs (t : Tsk) : List Int := t.2.2.2.2.2.1
abbrev Tsk.code (t : Tsk) : List Ins := t.2.2.2.2.2.2
abbrev Img.inputs (m : Img) : Int := m.2.2.2.1
abbrev Img.safe (m : Img) : List Int := m.2.2.2.2.1
abbrev Img.blocks (m : Img) : List (List Int) := m.2.2.2.2.2.1
abbrev Img.tasks (m : Img) : List Tsk := m.2.2.2.2.2.2
theorem drop_eq_cons {α : Type} {l : List α} {i : Nat} {d : α} (h : i < l.length) : l.drop i = l.getD i d :: l.drop (i + 1) := by
  rw [List.drop_eq_getElem_cons h, List.getD_eq_getElem?_getD, List.getElem?_eq_getElem h]
  rfl
theorem owns_is (n : Nat) (t : Tsk) (m : Img) (p : Int) (hl : t.outs.length < n) (hn : n < 1000000) : check_job_owns.f n (t, m) p = some (t.outs.contains p) := by
  unfold check_job_owns.f check_job_owns.b0.l
  have := it_all (S := fun F (x : Int × List Int × Int × Int) => check_job_owns.b0 n F x.1 x.2.1 x.2.2.1 x.2.2.2) (fun f x r => ∃ i : Nat, x = (p, t.outs, (t.outs.length : Int), (i : Int)) ∧ i ≤ t.outs.length ∧ t.outs.length < f + i ∧ r = if (t.outs.drop i).contains p = true then .inl ((true, ()), ()) else .inr ((), ())) (fun x r ⟨i, _, h1, h2, _⟩ => by omega) (fun f x F hF r => ?_) n (p, t.outs, (t.outs.length : Int), 0) _ ⟨0, rfl, Nat.zero_le _, by omega, rfl⟩
  · rw [this, List.drop_zero]
    cases h : t.outs.contains p <;> rfl
  · rintro ⟨i, rfl, h1, h2, rfl⟩
    show check_job_owns.b0 n F p t.outs (t.outs.length : Int) (i : Int) = _
    unfold check_job_owns.b0
    rcases Nat.lt_or_ge i t.outs.length with hlt | hge
    · rw [if_pos (decide_eq_true (by omega)), if_pos (in_ix hlt), Int.toNat_natCast, next_ix (by omega), drop_eq_cons (d := (0 : Int)) hlt, List.contains_cons]
      by_cases e : t.outs.getD i 0 = p
      · rw [if_pos (beq_iff_eq.2 e), e, beq_self_eq_true, Bool.true_or, if_pos rfl]
      · rw [if_neg (fun h => e (beq_iff_eq.1 h))]
        have e2 : (p == t.outs.getD i 0) = false := by rw [beq_eq_false_iff_ne]; exact fun h => e h.symm
        rw [e2, Bool.false_or]
        exact hF _ _ ⟨i + 1, rfl, by omega, by omega, rfl⟩
    · have : i = t.outs.length := by omega
      subst this
      rw [if_neg (by simp), List.drop_length]
      rfl
end Go.Proofs.Dk

/- Plain: the instructions' names; a task's blocks. -/
namespace Go.Proofs.Dk
open Go
set_option maxRecDepth 100000
set_option linter.unusedVariables false
set_option linter.unusedSimpArgs false
def nameI (m : Img) (t : Tsk) (i : Ins) : Bool :=
  if i.1 = 15 then decide (i.2.1 < m.inputs) else if i.1 = 16 then t.outs.contains i.2.1 else if i.1 = 17 then decide (i.2.2 < ((m.blocks.getD i.2.1.toNat []).length : Int)) else if i.1 = 18 then decide (i.2.2 < ((m.blocks.getD i.2.1.toNat []).length : Int)) else true
theorem names_j (n : Nat) (t : Tsk) (m : Img) (i : Ins) (ho : t.outs.length < n) (hn : n < 1000000) (hb : i.1 = 17 ∨ i.1 = 18 → 0 ≤ i.2.1 ∧ i.2.1 < (m.blocks.length : Int)) (l : List Ins) (v k : Int) :
    check_job_names.j0 n true l v k t.1 t.2.1 t.2.2.1 t.2.2.2.1 t.2.2.2.2.1 t.2.2.2.2.2.1 t.2.2.2.2.2.2 m.1 m.2.1 m.2.2.1 m.2.2.2.1 m.2.2.2.2.1 m.2.2.2.2.2.1 m.2.2.2.2.2.2 i.1 i.2.1 i.2.2 = some (nameI m t i, l, v, k, t.1, t.2.1, t.2.2.1, t.2.2.2.1, t.2.2.2.2.1, t.2.2.2.2.2.1, t.2.2.2.2.2.2, m.1, m.2.1, m.2.2.1, m.2.2.2.1, m.2.2.2.2.1, m.2.2.2.2.2.1, m.2.2.2.2.2.2, i.1, i.2.1, i.2.2) := by
  unfold check_job_names.j0 nameI
  by_cases h15 : i.1 = 15
  · rw [if_pos (beq_iff_eq.2 h15), if_pos h15]
  rw [if_neg (fun h => h15 (beq_iff_eq.1 h)), if_neg h15]
  by_cases h16 : i.1 = 16
  · rw [if_pos (beq_iff_eq.2 h16), if_pos h16]
    have := owns_is n t m i.2.1 ho hn
    show ((check_job_owns.f n (t, m) i.2.1).bind _) = _
    rw [this]; rfl
  rw [if_neg (fun h => h16 (beq_iff_eq.1 h)), if_neg h16]
  by_cases h17 : i.1 = 17
  · have := hb (.inl h17)
    rw [if_pos (beq_iff_eq.2 h17), if_pos h17, if_pos (by rw [decide_eq_true this.1, decide_eq_true this.2]; rfl)]
  rw [if_neg (fun h => h17 (beq_iff_eq.1 h)), if_neg h17]
  by_cases h18 : i.1 = 18
  · have := hb (.inr h18)
    rw [if_pos (beq_iff_eq.2 h18), if_pos h18, if_pos (by rw [decide_eq_true this.1, decide_eq_true this.2]; rfl)]
  rw [if_neg (fun h => h18 (beq_iff_eq.1 h)), if_neg h18]
theorem names_is (n : Nat) (t : Tsk) (m : Img) (hl : t.code.length < n) (ho : t.outs.length < n) (hn : n < 1000000) (hb : ∀ i ∈ t.code, i.1 = 17 ∨ i.1 = 18 → 0 ≤ i.2.1 ∧ i.2.1 < (m.blocks.length : Int)) : check_job_names.f n (t, m) = some (if t.code.all (nameI m t) = true then 0 else 12) := by
  unfold check_job_names.f check_job_names.b1.l
  have := it_all (S := fun F (x : List Ins × Int × Int × Int × Int × Int × Int × List Int × List Int × List Ins × Int × Int × Int × Int × List Int × List (List Int) × List Tsk) => check_job_names.b1 n F x.1 x.2.1 x.2.2.1 x.2.2.2.1 x.2.2.2.2.1 x.2.2.2.2.2.1 x.2.2.2.2.2.2.1 x.2.2.2.2.2.2.2.1 x.2.2.2.2.2.2.2.2.1 x.2.2.2.2.2.2.2.2.2.1 x.2.2.2.2.2.2.2.2.2.2.1 x.2.2.2.2.2.2.2.2.2.2.2.1 x.2.2.2.2.2.2.2.2.2.2.2.2.1 x.2.2.2.2.2.2.2.2.2.2.2.2.2.1 x.2.2.2.2.2.2.2.2.2.2.2.2.2.2.1 x.2.2.2.2.2.2.2.2.2.2.2.2.2.2.2.1 x.2.2.2.2.2.2.2.2.2.2.2.2.2.2.2.2)
    (fun f x r => ∃ i : Nat, x = (t.code, (t.code.length : Int), (i : Int), t.1, t.2.1, t.2.2.1, t.2.2.2.1, t.2.2.2.2.1, t.2.2.2.2.2.1, t.2.2.2.2.2.2, m) ∧ i ≤ t.code.length ∧ t.code.length < f + i ∧ r = if (t.code.drop i).all (nameI m t) = true then .inr ((), ((t.1, t.2.1, t.2.2.1, t.2.2.2.1, t.2.2.2.2.1, t.2.2.2.2.2.1, t.2.2.2.2.2.2, m.1, m.2.1, m.2.2.1, m.2.2.2.1, m.2.2.2.2.1, m.2.2.2.2.2.1, m.2.2.2.2.2.2, ()), ())) else .inl ((12, ()), ((t.1, t.2.1, t.2.2.1, t.2.2.2.1, t.2.2.2.2.1, t.2.2.2.2.2.1, t.2.2.2.2.2.2, m.1, m.2.1, m.2.2.1, m.2.2.2.1, m.2.2.2.2.1, m.2.2.2.2.2.1, m.2.2.2.2.2.2, ()), ()))) (fun x r ⟨i, _, h1, h2, _⟩ => by omega) (fun f x F hF r => ?_) n (t.code, (t.code.length : Int), 0, t.1, t.2.1, t.2.2.1, t.2.2.2.1, t.2.2.2.2.1, t.2.2.2.2.2.1, t.2.2.2.2.2.2, m) _ ⟨0, rfl, Nat.zero_le _, by omega, rfl⟩
  · try dsimp only at this ⊢
    rw [this, List.drop_zero]
    cases h : t.code.all (nameI m t) <;> rfl
  · rintro ⟨i, rfl, h1, h2, rfl⟩
    show check_job_names.b1 n F t.code (t.code.length : Int) (i : Int) t.1 t.2.1 t.2.2.1 t.2.2.2.1 t.2.2.2.2.1 t.2.2.2.2.2.1 t.2.2.2.2.2.2 m.1 m.2.1 m.2.2.1 m.2.2.2.1 m.2.2.2.2.1 m.2.2.2.2.2.1 m.2.2.2.2.2.2 = _
    unfold check_job_names.b1
    rcases Nat.lt_or_ge i t.code.length with hlt | hge
    · have hm : t.code.getD i (0, 0, 0) ∈ t.code := by rw [List.getD_eq_getElem?_getD, List.getElem?_eq_getElem hlt]; exact List.getElem_mem hlt
      rw [if_pos (decide_eq_true (by omega)), if_pos (in_ix hlt), Int.toNat_natCast, names_j n t m _ ho hn (hb _ hm), drop_eq_cons (d := ((0 : Int), (0 : Int), (0 : Int))) hlt, List.all_cons]
      simp only [Option.bind_some]
      cases e : nameI m t (t.code.getD i (0, 0, 0)) with
      | true =>
        rw [if_neg (by simp), next_ix (by omega), Bool.true_and]
        exact hF _ _ ⟨i + 1, rfl, by omega, by omega, rfl⟩
      | false => rfl
    · have : i = t.code.length := by omega
      subst this
      rw [if_neg (by simp), List.drop_length]
      rfl
theorem lock1_len (l : List Ins) (i : Nat) : (lock1 l i).length ≤ 1 := by unfold lock1; split <;> simp
theorem lockF_len (l : List Ins) : ∀ (r i : Nat), (lockF l r i).length ≤ r
  | 0, i => by simp [lockF]
  | r + 1, i => by
    have := lockF_len l r (i + 1)
    have h1 := lock1_len l i
    rw [show lockF l (r + 1) i = lock1 l i ++ lockF l r (i + 1) from rfl, List.length_append]
    omega
theorem lockL_len (l : List Ins) : (lockL l).length ≤ l.length := by
  unfold lockL
  split
  · exact lockF_len l _ _
  · simp
theorem blocks_is (n : Nat) (t : Tsk) (m : Img) (hl : t.code.length < n) (hn3 : 3 < n) (hn : n < 1000000) : check_job_blocks.f n (t, m) = some (if locksI t.code ≠ 0 then locksI t.code else if lockL t.code = t.blocks then 0 else 11) := by
  unfold check_job_blocks.f
  rw [show nest_Locks.f n ((t, m) : Tsk × Img).1.2.2.2.2.2.2 = some (lockL t.code, locksI t.code) from locks_is2 n t.code hl hn]
  simp only [Option.bind_some]
  by_cases h0 : locksI t.code ≠ 0
  · rw [if_pos (bne_iff_ne.2 h0), if_pos h0]
  rw [if_neg (fun h => h0 (bne_iff_ne.1 h)), if_neg h0]
  by_cases hlen : (lockL t.code).length ≠ t.blocks.length
  · rw [if_pos (show ((((lockL t.code).length : Nat) : Int) != ((t.2.2.2.2.1.length : Nat) : Int)) = true from bne_iff_ne.2 (fun h => hlen (Int.ofNat.inj h))), if_neg (fun h => hlen (by rw [h]))]
  have hlen : (lockL t.code).length = t.blocks.length := Decidable.not_not.1 hlen
  rw [if_neg (show ¬ ((((lockL t.code).length : Nat) : Int) != ((t.2.2.2.2.1.length : Nat) : Int)) = true from fun h => bne_iff_ne.1 h (congrArg Int.ofNat hlen))]
  unfold check_job_blocks.b0.l
  have hk : (lockL t.code).length ≤ t.code.length := lockL_len t.code
  generalize lockL t.code = L at hlen hk
  have := it_all (S := fun F (x : List Int × Int × Int × Int × Int × Int × Int × List Int × List Int × List Ins × Int × Int × Int × Int × List Int × List (List Int) × List Tsk) => check_job_blocks.b0 n F x.1 x.2.1 x.2.2.1 x.2.2.2.1 x.2.2.2.2.1 x.2.2.2.2.2.1 x.2.2.2.2.2.2.1 x.2.2.2.2.2.2.2.1 x.2.2.2.2.2.2.2.2.1 x.2.2.2.2.2.2.2.2.2.1 x.2.2.2.2.2.2.2.2.2.2.1 x.2.2.2.2.2.2.2.2.2.2.2.1 x.2.2.2.2.2.2.2.2.2.2.2.2.1 x.2.2.2.2.2.2.2.2.2.2.2.2.2.1 x.2.2.2.2.2.2.2.2.2.2.2.2.2.2.1 x.2.2.2.2.2.2.2.2.2.2.2.2.2.2.2.1 x.2.2.2.2.2.2.2.2.2.2.2.2.2.2.2.2)
    (fun f x r => ∃ i : Nat, x = (L, (L.length : Int), (i : Int), t.1, t.2.1, t.2.2.1, t.2.2.2.1, t.2.2.2.2.1, t.2.2.2.2.2.1, t.2.2.2.2.2.2, m) ∧ i ≤ L.length ∧ L.length < f + i ∧ r = if L.drop i = t.blocks.drop i then .inr ((), ((t.1, t.2.1, t.2.2.1, t.2.2.2.1, t.2.2.2.2.1, t.2.2.2.2.2.1, t.2.2.2.2.2.2, m.1, m.2.1, m.2.2.1, m.2.2.2.1, m.2.2.2.2.1, m.2.2.2.2.2.1, m.2.2.2.2.2.2, ()), ())) else .inl ((11, ()), ((t.1, t.2.1, t.2.2.1, t.2.2.2.1, t.2.2.2.2.1, t.2.2.2.2.2.1, t.2.2.2.2.2.2, m.1, m.2.1, m.2.2.1, m.2.2.2.1, m.2.2.2.2.1, m.2.2.2.2.2.1, m.2.2.2.2.2.2, ()), ()))) (fun x r ⟨i, _, h1, h2, _⟩ => by omega) (fun f x F hF r => ?_) n (L, (L.length : Int), 0, t.1, t.2.1, t.2.2.1, t.2.2.2.1, t.2.2.2.2.1, t.2.2.2.2.2.1, t.2.2.2.2.2.2, m) _ ⟨0, rfl, Nat.zero_le _, by omega, rfl⟩
  · try dsimp only at this ⊢
    rw [this, List.drop_zero, List.drop_zero]
    by_cases h : L = t.blocks
    · rw [if_pos h, if_pos h]; rfl
    · rw [if_neg h, if_neg h]; rfl
  · rintro ⟨i, rfl, h1, h2, rfl⟩
    show check_job_blocks.b0 n F L (L.length : Int) (i : Int) t.1 t.2.1 t.2.2.1 t.2.2.2.1 t.2.2.2.2.1 t.2.2.2.2.2.1 t.2.2.2.2.2.2 m.1 m.2.1 m.2.2.1 m.2.2.2.1 m.2.2.2.2.1 m.2.2.2.2.2.1 m.2.2.2.2.2.2 = _
    unfold check_job_blocks.b0
    rcases Nat.lt_or_ge i L.length with hlt | hge
    · have hlt2 : i < t.2.2.2.2.1.length := by have : t.blocks.length = t.2.2.2.2.1.length := rfl; omega
      rw [if_pos (decide_eq_true (by omega)), if_pos (in_ix hlt), if_pos (in_ix hlt2), Int.toNat_natCast, drop_eq_cons (d := (0 : Int)) hlt, show t.blocks.drop i = t.2.2.2.2.1.getD i 0 :: t.blocks.drop (i + 1) from drop_eq_cons (d := (0 : Int)) hlt2]
      by_cases e : L.getD i 0 = t.2.2.2.2.1.getD i 0
      · rw [if_neg (fun h => bne_iff_ne.1 h e), next_ix (by omega), e]
        refine hF _ _ ⟨i + 1, rfl, by omega, by omega, ?_⟩
        simp only [List.cons.injEq, true_and]
      · rw [if_pos (bne_iff_ne.2 e), if_neg (fun h => e (List.cons.inj h).1)]
    · have : i = L.length := by omega
      subst this
      rw [if_neg (by simp), List.drop_length, hlen, List.drop_length]
      rfl
end Go.Proofs.Dk
