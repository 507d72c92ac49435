/- A part of the proofs: Plain: the stacks that a row has, in the end. -/
import Derived.Test.YtfppdlcgipnacaaMB4
import Derived.Test.YtfppdlcgipnacaaMB3
/- Plain: the stacks that a row has, in the end. -/
namespace Go.Proofs.Dk
open Go
set_option maxRecDepth 100000
set_option linter.unusedVariables false
set_option linter.unusedSimpArgs false
theorem toList_loop (y : ByteArray) : ∀ (k i : Nat) (r : List UInt8), y.size - i = k → ByteArray.toList.loop y i r = r.reverse ++ y.data.toList.drop i
  | 0, i, r, h => by
    unfold ByteArray.toList.loop
    rw [if_neg (by omega), List.drop_eq_nil_of_le (by rw [Array.length_toList]; exact Nat.sub_eq_zero_iff_le.1 h), List.append_nil]
  | k + 1, i, r, h => by
    unfold ByteArray.toList.loop
    have hi : i < y.size := by omega
    rw [if_pos hi, toList_loop y k (i + 1) _ (by omega), List.reverse_cons, List.append_assoc]
    have hi2 : i < y.data.toList.length := by rw [Array.length_toList]; exact hi
    rw [List.drop_eq_getElem_cons hi2]
    congr 1
    have : y.get! i = y.data.toList[i] := by
      show y.data[i]! = _
      rw [getElem!_pos y.data i hi, Array.getElem_toList]
    rw [this]
    rfl
theorem toList_data (y : ByteArray) : y.toList = y.data.toList := by
  unfold ByteArray.toList
  rw [toList_loop y _ 0 [] rfl]
  rfl
theorem toList_inj {a b : ByteArray} (h : a.toList = b.toList) : a = b := by
  rw [toList_data, toList_data] at h
  cases a; cases b
  congr 1
  exact Array.toList_inj.1 h
theorem neB_false {a b : ByteArray} (h : neB a b = false) : a = b := by
  unfold neB at h
  apply toList_inj
  cases h2 : (a.toList == b.toList)
  · rw [h2] at h; cases h
  · exact eq_of_beq h2
theorem jumpTo_gt (l : List Ins) (i : Nat) : i < jumpTo l i := by unfold jumpTo; omega
theorem nexts_gt {l : List Ins} {i q : Nat} (h : q ∈ nextsI l i) : i < q := by
  have := jumpTo_gt l i
  unfold nextsI at h
  split at h
  · rw [List.mem_singleton] at h; omega
  · split at h
    · rw [List.mem_cons, List.mem_singleton] at h; omega
    · split at h
      · cases h
      · rw [List.mem_singleton] at h; omega
abbrev stF (f : Flow) (k : Nat) : ByteArray := f.1.getD k ByteArray.empty
abbrev soF (f : Flow) (k : Nat) : Bool := f.2.1.getD k false
abbrev clF (f : Flow) (k : Nat) : Bool := f.2.2.getD k false
theorem hand_st {l : List Ins} {f : Flow} (hI : FlowI l f) {q : Nat} (hq : q < l.length) (t : ByteArray) (k : Nat) : stF (handI q t f) k = if k = q then t else stF f k := getD_set (by rw [hI.a]; exact hq)
theorem hand_so {l : List Ins} {f : Flow} (hI : FlowI l f) {q : Nat} (hq : q < l.length) (t : ByteArray) (k : Nat) : soF (handI q t f) k = if k = q then true else soF f k := getD_set (by rw [hI.b]; exact hq)
theorem hand_cl {l : List Ins} {f : Flow} (hI : FlowI l f) {q : Nat} (hq : q < l.length) (t : ByteArray) (k : Nat) : clF (handI q t f) k = if k = q then (clF f q || (soF f q && neB (stF f q) t)) else clF f k := by
  unfold handI clF
  simp only
  by_cases h : (f.2.1.getD q false && neB (f.1.getD q ByteArray.empty) t) = true
  · rw [if_pos h, getD_set (by rw [hI.c]; exact hq)]
    unfold soF stF
    rw [h, Bool.or_true]
  · rw [if_neg h]
    unfold soF stF
    rw [Bool.not_eq_true] at h
    rw [h, Bool.or_false]
    split
    · rename_i hk; rw [hk]
    · rfl
abbrev aftO (l : List Ins) (f : Flow) (j : Nat) : ByteArray := (afterI (l.getD j (0, 0, 0)) (stF f j)).1
abbrev aftE (l : List Ins) (f : Flow) (j : Nat) : Int := (afterI (l.getD j (0, 0, 0)) (stF f j)).2
structure FlowJ (l : List Ins) (m : List Int) (i : Nat) (f : Flow) : Prop where
  ok : ∀ j, j < i → aftE l f j = 0
  nx : ∀ j, j < i → ∀ q ∈ nextsI l j, soF f q = true ∧ (clF f q = false → stF f q = aftO l f j)
  nt : ∀ j, j < i → opAt l j = 22 → stF f (m.getD j 0).toNat = stF f j
  cl : ∀ j, j < i → clF f j = false
  z : stF f 0 = ByteArray.empty
theorem FlowJ.hand {l : List Ins} {m h : List Int} (hF : Fine l m h) {i : Nat} (hi : i < l.length) {f : Flow} (hI : FlowI l f) (hJ : FlowJ l m i f) {q : Nat} (hiq : i < q) (hq : q < l.length) (t : ByteArray) : FlowJ l m i (handI q t f) := by
  have hst := hand_st hI hq t
  have hso := hand_so hI hq t
  have hcl := hand_cl hI hq t
  have hlow : ∀ j, j < i → stF (handI q t f) j = stF f j := fun j hj => by rw [hst, if_neg (by omega)]
  refine ⟨fun j hj => ?_, fun j hj p hp => ?_, fun j hj ho => ?_, fun j hj => ?_, ?_⟩
  · unfold aftE
    rw [hlow j hj]
    exact hJ.ok j hj
  · obtain ⟨h1, h2⟩ := hJ.nx j hj p hp
    unfold aftO
    rw [hlow j hj, hso, hcl, hst]
    by_cases hpq : p = q
    · subst hpq
      rw [if_pos rfl, if_pos rfl, if_pos rfl]
      refine ⟨rfl, fun hc => ?_⟩
      rw [Bool.or_eq_false_iff, h1, Bool.true_and] at hc
      rw [← neB_false hc.2]
      exact h2 hc.1
    · rw [if_neg hpq, if_neg hpq, if_neg hpq]
      exact ⟨h1, h2⟩
  · obtain ⟨k, k1, k2, _⟩ := hF.closed.cl j (by omega) (.inl ho)
    have := hJ.nt j hj ho
    rw [k1, Int.toNat_natCast] at this ⊢
    rw [hlow j hj, hlow k (by omega)]
    exact this
  · rw [hcl, if_neg (by omega)]
    exact hJ.cl j hj
  · rw [hst, if_neg (by omega)]
    exact hJ.z
theorem fold_J {l : List Ins} {m h : List Int} (hF : Fine l m h) {i : Nat} (hi : i < l.length) {t : ByteArray} (ht : t.size ≤ 16) : ∀ (ks done : List Nat) {f : Flow}, FlowI l f → FlowJ l m i f → (∀ q ∈ ks, i < q ∧ q < l.length) → (∀ q ∈ done, q < l.length ∧ soF f q = true ∧ (clF f q = false → stF f q = t)) →
    FlowJ l m i (ks.foldl (fun g k => handI k t g) f) ∧ (∀ q ∈ done ++ ks, soF (ks.foldl (fun g k => handI k t g) f) q = true ∧ (clF (ks.foldl (fun g k => handI k t g) f) q = false → stF (ks.foldl (fun g k => handI k t g) f) q = t)) ∧ (∀ k, k ≤ i → stF (ks.foldl (fun g k => handI k t g) f) k = stF f k ∧ clF (ks.foldl (fun g k => handI k t g) f) k = clF f k)
  | [], done, f, hI, hJ, hk, hd => ⟨hJ, fun q hq => (hd q (by simpa using hq)).2, fun k _ => ⟨rfl, rfl⟩⟩
  | p :: ks, done, f, hI, hJ, hk, hd => by
    have hp := hk p (List.mem_cons_self ..)
    have hst := hand_st hI hp.2 t
    have hso := hand_so hI hp.2 t
    have hcl := hand_cl hI hp.2 t
    have ih := fold_J hF hi ht ks (done ++ [p]) (f := handI p t f) (handI_ok hI p ht) (hJ.hand hF hi hI hp.1 hp.2 t) (fun q hq => hk q (List.mem_cons_of_mem _ hq)) (fun q hq => by
      rw [List.mem_append, List.mem_singleton] at hq
      rw [hso, hcl, hst]
      by_cases hqp : q = p
      · subst hqp
        exact ⟨hp.2, by rw [if_pos rfl], fun _ => by rw [if_pos rfl]⟩
      · rw [if_neg hqp, if_neg hqp, if_neg hqp]
        exact hd q (hq.elim id fun h => absurd h hqp))
    refine ⟨ih.1, fun q hq => ih.2.1 q ?_, fun k hk => ?_⟩
    · rw [List.append_assoc]; exact hq
    · have h2 := ih.2.2 k hk
      refine ⟨h2.1.trans ?_, h2.2.trans ?_⟩
      · rw [hst, if_neg (by omega)]
      · rw [hcl, if_neg (by omega)]
theorem flowStep_J {l : List Ins} {m h : List Int} (hF : Fine l m h) {i : Nat} (hi : i < l.length) {f f' : Flow} (hI : FlowI l f) (hJ : FlowJ l m i f) (hs : flowStep l m i f = .inr f') : FlowJ l m (i + 1) f' := by
  unfold flowStep at hs
  split at hs
  · cases hs
  · rename_i h1
    split at hs
    · cases hs
    · rename_i h2
      split at hs
      · cases hs
      · rename_i h3
        split at hs
        · cases hs
        · rename_i h4
          cases hs
          have h4' : aftE l f i = 0 := Decidable.not_not.1 h4
          obtain ⟨a1, a2, a3⟩ := fold_J hF hi (t := aftO l f i) (after_size _ _) (nextsI l i) [] hI hJ (fun q hq => ⟨nexts_gt hq, hF.next hi q hq⟩) (fun q hq => by cases hq)
          rw [Bool.not_eq_true] at h2
          show FlowJ l m (i + 1) ((nextsI l i).foldl (fun g k => handI k (aftO l f i) g) f)
          generalize (nextsI l i).foldl (fun g k => handI k (aftO l f i) g) f = g at a1 a2 a3
          refine ⟨fun j hj => ?_, fun j hj q hq => ?_, fun j hj ho => ?_, fun j hj => ?_, a1.z⟩
          · rcases Nat.lt_or_ge j i with h | h
            · exact a1.ok j h
            · have : j = i := by omega
              subst this
              unfold aftE
              rw [(a3 j (Nat.le_refl _)).1]
              exact h4'
          · rcases Nat.lt_or_ge j i with h | h
            · exact a1.nx j h q hq
            · have : j = i := by omega
              subst this
              have := a2 q (by simpa using hq)
              refine ⟨this.1, fun hc => (this.2 hc).trans ?_⟩
              unfold aftO
              rw [(a3 j (Nat.le_refl _)).1]
          · rcases Nat.lt_or_ge j i with h | h
            · exact a1.nt j h ho
            · have : j = i := by omega
              subst this
              obtain ⟨k, k1, k2, _⟩ := hF.closed.cl j hi (.inl ho)
              rw [k1, Int.toNat_natCast] at h3 ⊢
              rw [(a3 j (Nat.le_refl _)).1, (a3 k (by omega)).1]
              cases h5 : neB (stF f k) (stF f j)
              · exact neB_false h5
              · exact absurd ⟨ho, h5⟩ h3
          · rcases Nat.lt_or_ge j i with h | h
            · exact a1.cl j h
            · have : j = i := by omega
              subst this
              rw [(a3 j (Nat.le_refl _)).2]
              exact h2
theorem stacksS_J {l : List Ins} {m h : List Int} (hF : Fine l m h) : ∀ (r i : Nat) {f f' : Flow}, FlowI l f → FlowJ l m i f → r + i = l.length → stacksS l m r i f = .inr f' → FlowI l f' ∧ FlowJ l m l.length f'
  | 0, i, f, f', hI, hJ, hr, hs => by
    cases hs
    have : i = l.length := by omega
    subst this
    exact ⟨hI, hJ⟩
  | r + 1, i, f, f', hI, hJ, hr, hs => by
    unfold stacksS at hs
    cases hq : flowStep l m i f with
    | inl e => rw [hq] at hs; cases hs
    | inr g => rw [hq] at hs; exact stacksS_J hF r (i + 1) (flowStep_ok hI hq) (flowStep_J hF (by omega) hI hJ hq) (by omega) hs
theorem stacksS_ne {l : List Ins} {m : List Int} : ∀ (r i : Nat) {f : Flow} {e : Int}, stacksS l m r i f = .inl e → e ≠ 0
  | 0, i, f, e, h => by cases h
  | r + 1, i, f, e, h => by
    unfold stacksS at h
    cases hq : flowStep l m i f with
    | inr g => rw [hq] at h; exact stacksS_ne r (i + 1) h
    | inl x =>
      rw [hq] at h
      cases h
      unfold flowStep at hq
      split at hq
      · cases hq; decide
      · split at hq
        · cases hq; decide
        · split at hq
          · cases hq; decide
          · split at hq
            · rename_i h4
              cases hq
              exact h4
            · cases hq
noncomputable def stacksL (l : List Ins) : List ByteArray := if wholeI l ≠ 0 then [] else match stacksS l (scanI l).1 l.length 0 (flow0 l) with
  | .inl _ => []
  | .inr s => s.1
abbrev stL (st : List ByteArray) (k : Nat) : ByteArray := st.getD k ByteArray.empty
structure Stk (l : List Ins) (m : List Int) (st : List ByteArray) : Prop where
  len : st.length = l.length
  sz : ∀ k, (stL st k).size ≤ 16
  ok : ∀ j, j < l.length → (afterI (l.getD j (0, 0, 0)) (stL st j)).2 = 0
  nx : ∀ j, j < l.length → ∀ q ∈ nextsI l j, stL st q = (afterI (l.getD j (0, 0, 0)) (stL st j)).1
  nt : ∀ j, j < l.length → opAt l j = 22 → stL st (m.getD j 0).toNat = stL st j
  z : stL st 0 = ByteArray.empty
theorem stacks_Stk {l : List Ins} (h : stacksI l = 0) : wholeI l = 0 ∧ Stk l (scanI l).1 (stacksL l) := by
  unfold stacksI at h
  by_cases hw : wholeI l = 0
  · refine ⟨hw, ?_⟩
    have hF := whole_fine hw
    have hl := hF.len
    rw [if_neg (fun h => h hw)] at h
    unfold stacksL
    rw [if_neg (fun h => h hw)]
    cases hq : stacksS l (scanI l).1 l.length 0 (flow0 l) with
    | inl e =>
      rw [hq] at h
      exact absurd h (stacksS_ne _ _ hq)
    | inr s =>
      have h0 : FlowJ l (scanI l).1 0 (flow0 l) := ⟨fun j hj => by omega, fun j hj => by omega, fun j hj => by omega, fun j hj => by omega, by
        unfold flow0 stF
        simp only [List.getD_eq_getElem?_getD, List.getElem?_replicate]
        split <;> rfl⟩
      obtain ⟨hI, hJ⟩ := stacksS_J hF l.length 0 (flow0_ok l) h0 (by omega) hq
      exact ⟨hI.a, hI.s, hJ.ok, fun j hj q hq => (hJ.nx j hj q hq).2 (hJ.cl q (hF.next hj q hq)), hJ.nt, hJ.z⟩
  · rw [if_pos hw] at h
    exact absurd h hw
theorem stacks_is2 (n : Nat) (l : List Ins) (hl : l.length < n) (hn3 : 3 < n) (hn : n < 1000000) : types_Stacks.f n l = some (stacksL l, stacksI l) := by
  unfold types_Stacks.f stacksI stacksL
  rw [whole_is n l hl hn, Option.bind_some]
  by_cases hw : wholeI l = 0
  · have hF := whole_fine hw
    have hI := flow0_ok l
    obtain ⟨l1, l2⟩ := hF.len
    obtain ⟨a, b, c, d, e, h⟩ := stacks_loop n hn3 hn hF n 0 hI (Nat.zero_le _) (by omega)
    have c1 : (decide (0 ≤ (l.length : Int)) && ((l.length : Int) == (l.length : Int)) && decide ((l.length : Int) * (16 : Int) ≤ 140737488355328) && decide (1 ≤ 16)) = true := by simp; omega
    have c2 : (decide (0 ≤ (l.length : Int)) && ((l.length : Int) == (l.length : Int)) && decide ((l.length : Int) * (1 : Int) ≤ 140737488355328) && decide (1 ≤ 1)) = true := by simp; omega
    rw [if_neg (fun h => (bne_iff_ne.1 h) hw), match_is n l hl hn, Option.bind_some, if_pos c1, if_pos c2, if_pos c2, if_neg (show ¬ (wholeI l ≠ 0) from fun h => h hw), if_neg (show ¬ (wholeI l ≠ 0) from fun h => h hw), Int.toNat_natCast]
    have hX : FlowI l (List.replicate l.length ByteArray.empty, List.replicate l.length false, List.replicate l.length false) := ⟨by simp, by simp, by simp, hI.s⟩
    have e0 : handI 0 (ByteArray.mk #[]) (List.replicate l.length ByteArray.empty, List.replicate l.length false, List.replicate l.length false) = flow0 l := by
      unfold handI flow0
      have e1 : (ByteArray.mk #[]) = ByteArray.empty := rfl
      have e2 : (List.replicate l.length false).getD 0 false = false := by
        simp only [List.getD_eq_getElem?_getD, List.getElem?_replicate]
        split <;> rfl
      simp only [e1, List.set_replicate_self, e2]
      rfl
    have h0 := stacks_hand n hX l1 (ByteArray.mk #[]) fun a b c d e => (types_Stacks.b3.l n ((scanI l).1, l, (l.length : Int), 0, c, d, e)).bind fun y4 => ((Sum.elim (fun (z5 : (((List ByteArray) × Int × Unit) × (((List ByteArray) × (List Bool) × (List Bool) × Unit) × Unit))) => (some (z5.1.1, z5.1.2.1))) (fun (z6 : (Unit × (((List ByteArray) × (List Bool) × (List Bool) × Unit) × Unit))) => (some (z6.2.1.1, (0 : Int))))) y4)
    rw [e0] at h0
    unfold types_Stacks.b3.l at h0 ⊢
    rw [Nat.sub_zero] at h
    refine h0.trans ?_
    rw [show ((0 : Nat) : Int) = 0 from rfl] at h
    rw [h]
    cases hq : stacksS l (scanI l).1 l.length 0 (flow0 l) with
    | inl z => rfl
    | inr s' => rfl
  · rw [if_pos (by simp only [bne_iff_ne, ne_eq]; exact hw), if_pos hw, if_pos hw]
end Go.Proofs.Dk

/- Plain: the steps of ways. -/
namespace Go.Proofs.Dk
open Go
set_option maxRecDepth 100000
set_option linter.unusedVariables false
set_option linter.unusedSimpArgs false
theorem right21 {A B : Int} (h : rightI (21, A, B) = true) : 1 ≤ A ∧ A ≤ 1000 := by
  have h1 := (right_is 0 (21, A, B)).symm.trans (opR21 0 A B)
  rw [h] at h1
  by_cases h2 : 1 ≤ A
  · by_cases h3 : A ≤ 1000
    · exact ⟨h2, h3⟩
    · rw [if_pos (decide_eq_true h2), if_neg (by simpa using h3)] at h1
      cases h1
  · rw [if_neg (by simpa using h2)] at h1
    cases h1
def mN (m : List Int) (i : Nat) : Nat := (m.getD i 0).toNat
def hopsI (l : List Ins) (m : List Int) (i : Nat) : List Nat := if opAt l i = 21 then [mN m i + 1] else if opAt l i = 19 then [jumpTo l i] else if opAt l i = 20 then [jumpTo l i, i + 1] else [i + 1]
def putI (b : Int → Int → Int) (D : Nat → Int) (k : Nat) (v : Int) : Nat → Int := fun j => if j = k then (if D k = -1 then v else b (D k) v) else D j
structure Reg (l : List Ins) (m : List Int) (a z : Nat) : Prop where
  le : a ≤ z
  lt : z < l.length
  loop : ∀ i, a ≤ i → i < z → isOpen l i = true → ∃ j : Nat, m.getD i 0 = (j : Int) ∧ i < j ∧ j < z
  jump : ∀ i, a ≤ i → i < z → opAt l i = 19 ∨ opAt l i = 20 → jumpTo l i ≤ z
theorem Fine.reg {l : List Ins} {m h : List Int} (hF : Fine l m h) {p : Nat} (hp : p < l.length) (ho : isOpen l p = true) : Reg l m (p + 1) (mN m p) := by
  obtain ⟨j, j1, j2, j3⟩ := hF.nest.open_ p hp ho
  have hj : mN m p = j := by unfold mN; rw [j1]; rfl
  rw [hj]
  refine ⟨by omega, j3, fun i h1 h2 h3 => ?_, fun i h1 h2 h3 => ?_⟩
  · obtain ⟨q, q1, q2, q3⟩ := hF.nest.open_ i (by omega) h3
    obtain ⟨q', e1, e2⟩ := hF.nest.cross p i j (by omega) h2 hp ho h3 j1
    exact ⟨q, q1, q2, by omega⟩
  · obtain ⟨k1, k2⟩ := hF.jump (show i < l.length by omega) h3
    rcases Nat.lt_or_ge j (jumpTo l i) with hlt | hge
    · exfalso
      have e1 : enc l m p i = true := by
        unfold enc
        rw [ho, j1]
        simp; omega
      have e2 : enc l m p (jumpTo l i) = false := by
        unfold enc
        rw [ho, j1]
        simp; omega
      rcases home_cases l m i with hh | ⟨q, hh⟩
      · rw [enc_none hh p] at e1; cases e1
      · obtain ⟨_, _, x3⟩ := enc_home hF.nest (show i < l.length by omega) hh
        obtain ⟨_, _, y3⟩ := enc_home hF.nest k1 (k2.trans hh)
        rw [y3 p, ← x3 p, e1] at e2
        cases e2
    · exact hge
theorem Fine.all {l : List Ins} {m h : List Int} (hF : Fine l m h) : Reg l m 0 (l.length - 1) := by
  obtain ⟨l1, l2⟩ := hF.len
  refine ⟨Nat.zero_le _, by omega, fun i h1 h2 h3 => ?_, fun i h1 h2 h3 => ?_⟩
  · obtain ⟨j, j1, j2, j3, j4, j5⟩ := hF.closed.op_ i (by omega) h3
    refine ⟨j, j1, j2, ?_⟩
    have : j ≠ l.length - 1 := fun e => by
      subst e
      have h5 := hF.last
      have h6 := ends_op (l.getD i (0, 0, 0))
      unfold opAt at h5
      rw [j4] at h5
      omega
    omega
  · have := (hF.jump (show i < l.length by omega) h3).1
    omega
end Go.Proofs.Dk

/- Plain: the steps of ways, by the program. -/
namespace Go.Proofs.Dk
open Go
set_option maxRecDepth 100000
set_option linter.unusedVariables false
set_option linter.unusedSimpArgs false
structure LD (d : List Int) (D : Nat → Int) (a z : Nat) : Prop where
  len : d.length = z - a + 1
  at_ : ∀ k, a ≤ k → k ≤ z → d.getD (k - a) 0 = D k
theorem LD.put {d : List Int} {D : Nat → Int} {a z : Nat} (h : LD d D a z) (b : Int → Int → Int) {k : Nat} (hk : a ≤ k) (hk2 : k ≤ z) (v : Int) : LD (d.set (k - a) (if d.getD (k - a) 0 = -1 then v else b (d.getD (k - a) 0) v)) (putI b D k v) a z := by
  have hl := h.len
  refine ⟨by rw [List.length_set, hl], fun j h1 h2 => ?_⟩
  rw [getD_set (by omega), h.at_ k hk hk2]
  unfold putI
  by_cases e : j = k
  · subst e
    rw [if_pos rfl, if_pos rfl]
  · rw [if_neg (by omega), if_neg e, h.at_ j h1 h2]

end Go.Proofs.Dk

/- Plain: the steps of ways, by the program, on. -/
namespace Go.Proofs.Dk
open Go
set_option maxRecDepth 100000
set_option linter.unusedVariables false
set_option linter.unusedSimpArgs false
end Go.Proofs.Dk

/- Plain: each instruction can be reached. -/
namespace Go.Proofs.Dk
open Go
set_option maxRecDepth 100000
set_option linter.unusedVariables false
set_option linter.unusedSimpArgs false
theorem set_true {s : List Bool} {q k : Nat} (h : (s.set q true).getD k false = true) : s.getD k false = true ∨ k = q := by
  by_cases e : k = q
  · exact .inr e
  · refine .inl ?_
    rw [List.getD_eq_getElem?_getD, List.getElem?_set_ne (fun h => e h.symm)] at h
    rw [List.getD_eq_getElem?_getD]
    exact h
theorem hands_some {t : ByteArray} : ∀ (ks : List Nat) {f : Flow} {k : Nat}, (ks.foldl (fun g q => handI q t g) f).2.1.getD k false = true → f.2.1.getD k false = true ∨ k ∈ ks
  | [], f, k, h => .inl h
  | q :: ks, f, k, h => by
    rcases hands_some ks h with h1 | h1
    · rcases set_true h1 with h2 | h2
      · exact .inl h2
      · exact .inr (by rw [h2]; exact List.mem_cons_self)
    · exact .inr (List.mem_cons_of_mem _ h1)
theorem flowStep_some {l : List Ins} {m : List Int} {i : Nat} {f f' : Flow} (hs : flowStep l m i f = .inr f') : f.2.1.getD i false = true ∧ ∀ k, f'.2.1.getD k false = true → f.2.1.getD k false = true ∨ k ∈ nextsI l i := by
  unfold flowStep at hs
  split at hs
  · cases hs
  · rename_i h1
    refine ⟨by simpa using h1, fun k hk => ?_⟩
    split at hs
    · cases hs
    · split at hs
      · cases hs
      · split at hs
        · cases hs
        · cases hs
          exact hands_some _ hk
theorem stacks_reach {l : List Ins} {m : List Int} : ∀ (r i : Nat) {f f' : Flow}, stacksS l m r i f = .inr f' → (∀ k, f.2.1.getD k false = true → k = 0 ∨ ∃ p, p < i ∧ k ∈ nextsI l p) → ∀ k, i ≤ k → k < i + r → k = 0 ∨ ∃ p, p < k ∧ k ∈ nextsI l p
  | 0, i, f, f', hs, hI, k, h1, h2 => by omega
  | r + 1, i, f, f', hs, hI, k, h1, h2 => by
    simp only [stacksS] at hs
    cases hq : flowStep l m i f with
    | inl e => rw [hq] at hs; cases hs
    | inr f1 =>
      rw [hq] at hs
      obtain ⟨a1, a2⟩ := flowStep_some hq
      by_cases e : k = i
      · subst e
        exact hI k a1
      · refine stacks_reach r (i + 1) hs (fun k hk => ?_) k (by omega) (by omega)
        rcases a2 k hk with h3 | h3
        · rcases hI k h3 with h4 | ⟨p, p1, p2⟩
          · exact .inl h4
          · exact .inr ⟨p, by omega, p2⟩
        · exact .inr ⟨i, by omega, h3⟩
def Come (l : List Ins) : Prop := ∀ k, 0 < k → k < l.length → ∃ p, p < k ∧ k ∈ nextsI l p
theorem come_is {l : List Ins} (h : stacksI l = 0) : wholeI l = 0 ∧ Come l := by
  unfold stacksI at h
  split at h
  · rename_i hw
    exact absurd h hw
  · rename_i hw
    have hw0 : wholeI l = 0 := by
      by_cases e : wholeI l = 0
      · exact e
      · exact absurd e hw
    refine ⟨hw0, fun k k1 k2 => ?_⟩
    cases hq : stacksS l (scanI l).1 l.length 0 (flow0 l) with
    | inl e =>
      rw [hq] at h
      simp only at h
      subst h
      exfalso
      have key : ∀ (r i : Nat) {f : Flow}, stacksS l (scanI l).1 r i f ≠ .inl 0 := by
        intro r
        induction r with
        | zero => intro i f h; cases h
        | succ r ih =>
          intro i f h
          simp only [stacksS] at h
          cases hq : flowStep l (scanI l).1 i f with
          | inr f1 => rw [hq] at h; exact ih (i + 1) h
          | inl e =>
            rw [hq] at h
            cases h
            unfold flowStep at hq
            split at hq
            · cases hq
            · split at hq
              · cases hq
              · split at hq
                · cases hq
                · split at hq
                  · rename_i h5
                    exact h5 (Sum.inl.inj hq)
                  · cases hq
      exact key _ _ hq
    | inr f' =>
      have hI : ∀ k, (flow0 l).2.1.getD k false = true → k = 0 ∨ ∃ p, p < 0 ∧ k ∈ nextsI l p := fun k hk => by
        left
        unfold flow0 at hk
        rcases set_true hk with h2 | h2
        · rw [List.getD_eq_getElem?_getD, List.getElem?_replicate] at h2
          split at h2 <;> cases h2
        · exact h2
      rcases stacks_reach l.length 0 hq hI k (Nat.zero_le _) (by omega) with h1 | h1
      · omega
      · exact h1
theorem Fine.jump_enc {l : List Ins} {m h : List Int} (hF : Fine l m h) {i : Nat} (hi : i < l.length) (hj : opAt l i = 19 ∨ opAt l i = 20) (q : Nat) : enc l m q (jumpTo l i) = enc l m q i := by
  obtain ⟨k1, k2⟩ := hF.jump hi hj
  rcases home_cases l m i with hh | ⟨p, hh⟩
  · rw [enc_none hh q, enc_none (k2.trans hh) q]
  · obtain ⟨_, _, x3⟩ := enc_home hF.nest hi hh
    obtain ⟨_, _, y3⟩ := enc_home hF.nest k1 (k2.trans hh)
    rw [x3 q, y3 q]
theorem enc_iff {l : List Ins} {m : List Int} {q k j : Nat} (ho : isOpen l q = true) (hj : m.getD q 0 = (j : Int)) : enc l m q k = true ↔ q < k ∧ k ≤ j := by
  unfold enc
  rw [ho, hj]
  simp
structure Way (l : List Ins) (m : List Int) (a z : Nat) : Prop where
  reg : Reg l m a z
  out : a = 0 ∨ ∃ p, a = p + 1 ∧ isOpen l p = true ∧ m.getD p 0 = (z : Int)
theorem Fine.way {l : List Ins} {m h : List Int} (hF : Fine l m h) {p : Nat} (hp : p < l.length) (ho : isOpen l p = true) : Way l m (p + 1) (mN m p) := by
  refine ⟨hF.reg hp ho, .inr ⟨p, rfl, ho, ?_⟩⟩
  obtain ⟨j, j1, _⟩ := hF.nest.open_ p hp ho
  unfold mN
  rw [j1]
  rfl
end Go.Proofs.Dk

/- Plain: the loops and locks around a place, from step to step. -/
namespace Go.Proofs.Dk
open Go
set_option maxRecDepth 100000
set_option linter.unusedVariables false
set_option linter.unusedSimpArgs false
theorem bool_iff {a b : Bool} (h : a = true ↔ b = true) : a = b := Bool.eq_iff_iff.2 h
theorem enc_open {l : List Ins} {m : List Int} {k i : Nat} (h : enc l m k i = true) : k < i ∧ isOpen l k = true := by
  unfold enc at h
  rw [Bool.and_eq_true, decide_eq_true_eq, Bool.and_eq_true] at h
  exact ⟨h.1, h.2.1⟩
theorem open_lt {l : List Ins} {k : Nat} (h : isOpen l k = true) : k < l.length := by
  rcases Nat.lt_or_ge k l.length with h1 | h1
  · exact h1
  · unfold isOpen at h
    rw [List.getD_eq_getElem?_getD, List.getElem?_eq_none h1] at h
    cases h
theorem isOpen_op {l : List Ins} {i : Nat} (h : opAt l i = 21 ∨ opAt l i = 23) : isOpen l i = true := isOpen_iff.2 h
theorem enc_succ {l : List Ins} {m h : List Int} (hF : Fine l m h) {i : Nat} (hi : i < l.length) (h22 : opAt l i ≠ 22) (h24 : opAt l i ≠ 24) (k : Nat) : enc l m k (i + 1) = ((decide (k = i) && isOpen l i) || enc l m k i) := by
  apply bool_iff
  by_cases ho : isOpen l k = true
  · obtain ⟨j, j1, j2, j3⟩ := hF.nest.open_ k (open_lt ho) ho
    obtain ⟨j', e1, e2, e3, e4, e5⟩ := hF.closed.op_ k (open_lt ho) ho
    have hj : j = j' := by rw [j1] at e1; omega
    subst hj
    have hji : j ≠ i := fun hc => by
      subst hc
      have := ends_op (l.getD k (0, 0, 0))
      rw [← e4] at this
      exact this.elim h22 h24
    rw [enc_iff ho j1, Bool.or_eq_true, Bool.and_eq_true, decide_eq_true_eq, enc_iff ho j1]
    constructor
    · rintro ⟨h1, h2⟩
      by_cases hk : k = i
      · exact .inl ⟨hk, hk ▸ ho⟩
      · exact .inr ⟨by omega, by omega⟩
    · rintro (⟨h1, h2⟩ | ⟨h1, h2⟩)
      · subst h1; exact ⟨by omega, by omega⟩
      · exact ⟨by omega, by omega⟩
  · rw [Bool.or_eq_true, Bool.and_eq_true, decide_eq_true_eq]
    constructor
    · intro h; exact absurd (enc_open h).2 ho
    · rintro (⟨h1, h2⟩ | h)
      · subst h1; exact absurd h2 ho
      · exact absurd (enc_open h).2 ho
theorem enc_close {l : List Ins} {m h : List Int} (hF : Fine l m h) {i : Nat} (hi : i < l.length) (hc : opAt l i = 22 ∨ opAt l i = 24) : ∃ k0 : Nat, m.getD i 0 = (k0 : Int) ∧ k0 < i ∧ isOpen l k0 = true ∧ m.getD k0 0 = (i : Int) ∧ l.getD i (0, 0, 0) = ends (l.getD k0 (0, 0, 0)) ∧
    (∀ k, enc l m k i = (decide (k = k0) || enc l m k k0)) ∧ (∀ k, enc l m k (i + 1) = enc l m k k0) := by
  obtain ⟨k0, a1, a2, a3, a4, a5⟩ := hF.closed.cl i hi hc
  have key : ∀ k, isOpen l k = true → ∀ j : Nat, m.getD k 0 = (j : Int) → ((k < i ∧ i ≤ j) ↔ (k = k0 ∨ (k < k0 ∧ k0 ≤ j))) ∧ ((k < i + 1 ∧ i + 1 ≤ j) ↔ (k < k0 ∧ k0 ≤ j)) := by
    intro k ho j j1
    have hin : isOpen l i = false := hF.nest.clos k0 i (by omega) a3 a4
    have hki : k ≠ i := fun hc => by subst hc; rw [ho] at hin; cases hin
    have c1 : k0 < k → k < i → j < i := fun h1 h2 => by
      obtain ⟨q, q1, q2⟩ := hF.nest.cross k0 k i h1 h2 (by omega) a3 ho a4
      rw [j1] at q1; omega
    have c2 : k < k0 → k0 < j → i < j := fun h1 h2 => by
      obtain ⟨q, q1, q2⟩ := hF.nest.cross k k0 j h1 h2 (open_lt ho) ho a3 j1
      rw [a4] at q1; omega
    have c3 : j ≠ k0 := fun hc => by
      have := hF.nest.clos k j (open_lt ho) ho j1
      rw [hc, a3] at this; cases this
    have c4 : k = k0 → j = i := fun hc => by subst hc; rw [a4] at j1; omega
    refine ⟨⟨fun ⟨h1, h2⟩ => ?_, fun h => ?_⟩, ⟨fun ⟨h1, h2⟩ => ?_, fun ⟨h1, h2⟩ => ?_⟩⟩
    · rcases Nat.lt_trichotomy k k0 with h3 | h3 | h3
      · exact .inr ⟨h3, by omega⟩
      · exact .inl h3
      · have := c1 h3 h1; omega
    · rcases h with h3 | ⟨h3, h4⟩
      · have := c4 h3; exact ⟨by omega, by omega⟩
      · have := c2 h3 (by omega); exact ⟨by omega, by omega⟩
    · rcases Nat.lt_trichotomy k k0 with h3 | h3 | h3
      · exact ⟨h3, by omega⟩
      · have := c4 h3; omega
      · have := c1 h3 (by omega); omega
    · have := c2 h1 (by omega); exact ⟨by omega, by omega⟩
  refine ⟨k0, a1, a2, a3, a4, a5, fun k => bool_iff ?_, fun k => bool_iff ?_⟩
  · by_cases ho : isOpen l k = true
    · obtain ⟨j, j1, j2, j3⟩ := hF.nest.open_ k (open_lt ho) ho
      rw [enc_iff ho j1, Bool.or_eq_true, decide_eq_true_eq, enc_iff ho j1]
      exact (key k ho j j1).1
    · rw [Bool.or_eq_true, decide_eq_true_eq]
      exact ⟨fun h => absurd (enc_open h).2 ho, fun h => h.elim (fun h => absurd (h ▸ a3) ho) (fun h => absurd (enc_open h).2 ho)⟩
  · by_cases ho : isOpen l k = true
    · obtain ⟨j, j1, j2, j3⟩ := hF.nest.open_ k (open_lt ho) ho
      rw [enc_iff ho j1, enc_iff ho j1]
      exact (key k ho j j1).2
    · exact ⟨fun h => absurd (enc_open h).2 ho, fun h => absurd (enc_open h).2 ho⟩
theorem filter_range {P : Nat → Bool} {a : Nat} : ∀ (d : Nat), (∀ k, a ≤ k → P k = false) → (List.range (a + d)).filter P = (List.range a).filter P
  | 0, h => rfl
  | d + 1, h => by
    rw [← Nat.add_assoc, List.range_succ, List.filter_append, filter_range d h, List.filter_cons, h (a + d) (by omega)]
    simp
theorem filter_range2 {P : Nat → Bool} {a b : Nat} (hab : a ≤ b) (h : ∀ k, a ≤ k → P k = false) : (List.range b).filter P = (List.range a).filter P := by
  have := filter_range (P := P) (a := a) (b - a) h
  rw [show a + (b - a) = b by omega] at this
  exact this
theorem filter_congr2 {P Q : Nat → Bool} {l : List Nat} (h : ∀ k, P k = Q k) : l.filter P = l.filter Q := by
  have : P = Q := funext h
  rw [this]
def lps (l : List Ins) (m : List Int) (i : Nat) : List Nat := (List.range i).filter fun k => enc l m k i && opAt l k == 21
theorem enc_ge {l : List Ins} {m : List Int} {i k : Nat} (h : i ≤ k) : enc l m k i = false := by
  cases h2 : enc l m k i
  · rfl
  · have := (enc_open h2).1; omega
theorem lps_same {l : List Ins} {m : List Int} {i q : Nat} (hiq : i ≤ q) (h : ∀ k, opAt l k = 21 → enc l m k q = enc l m k i) : lps l m q = lps l m i := by
  unfold lps
  have e : ∀ k, (enc l m k q && opAt l k == 21) = (enc l m k i && opAt l k == 21) := fun k => by
    cases h2 : (opAt l k == 21)
    · rw [Bool.and_false, Bool.and_false]
    · rw [h k (eq_of_beq h2)]
  rw [filter_congr2 e]
  exact filter_range2 hiq fun k hk => by rw [enc_ge hk, Bool.false_and]
theorem lps_plain {l : List Ins} {m h : List Int} (hF : Fine l m h) {i : Nat} (hi : i < l.length) (h21 : opAt l i ≠ 21) (h22 : opAt l i ≠ 22) (h24 : opAt l i ≠ 24) : lps l m (i + 1) = lps l m i :=
  lps_same (by omega) fun k hk => by
    rw [enc_succ hF hi h22 h24]
    by_cases hki : k = i
    · exact absurd (hki ▸ hk) h21
    · rw [decide_eq_false hki]; rfl
theorem lps_jump {l : List Ins} {m h : List Int} (hF : Fine l m h) {i : Nat} (hi : i < l.length) (hj : opAt l i = 19 ∨ opAt l i = 20) : lps l m (jumpTo l i) = lps l m i :=
  lps_same (Nat.le_of_lt (jumpTo_gt l i)) fun k _ => hF.jump_enc hi hj k
theorem lps_loop {l : List Ins} {m h : List Int} (hF : Fine l m h) {i : Nat} (hi : i < l.length) (h21 : opAt l i = 21) : lps l m (i + 1) = lps l m i ++ [i] := by
  have ho := isOpen_op (.inl h21)
  unfold lps
  have e : ∀ k, (enc l m k (i + 1) && opAt l k == 21) = ((decide (k = i) || enc l m k i) && opAt l k == 21) := fun k => by
    rw [enc_succ hF hi (by rw [h21]; decide) (by rw [h21]; decide), ho, Bool.and_true]
  rw [filter_congr2 e, List.range_succ, List.filter_append]
  congr 1
  · apply List.filter_congr
    intro k hk
    rw [List.mem_range] at hk
    rw [decide_eq_false (by omega), Bool.false_or]
  · rw [List.filter_cons, decide_eq_true rfl, Bool.true_or, h21]
    rfl
theorem lps_unlock {l : List Ins} {m h : List Int} (hF : Fine l m h) {i : Nat} (hi : i < l.length) (h24 : opAt l i = 24) : lps l m (i + 1) = lps l m i := by
  obtain ⟨k0, a1, a2, a3, a4, a5, a6, a7⟩ := enc_close hF hi (.inr h24)
  refine lps_same (by omega) fun k hk => ?_
  rw [a7, a6]
  by_cases hkk : k = k0
  · subst hkk
    have : opAt l i = (ends (l.getD k (0, 0, 0))).1 := congrArg (·.1) a5
    unfold ends at this
    rw [if_pos (show (l.getD k (0, 0, 0)).1 = 21 from hk), h24] at this
    cases this
  · rw [decide_eq_false hkk, Bool.false_or]
theorem lps_next {l : List Ins} {m h : List Int} (hF : Fine l m h) {i : Nat} (hi : i < l.length) (h22 : opAt l i = 22) : ∃ k0 : Nat, m.getD i 0 = (k0 : Int) ∧ k0 < i ∧ opAt l k0 = 21 ∧ m.getD k0 0 = (i : Int) ∧ lps l m i = lps l m k0 ++ [k0] ∧ lps l m (k0 + 1) = lps l m k0 ++ [k0] ∧ lps l m (i + 1) = lps l m k0 := by
  obtain ⟨k0, a1, a2, a3, a4, a5, a6, a7⟩ := enc_close hF hi (.inl h22)
  have h21 : opAt l k0 = 21 := by
    rcases isOpen_iff.1 a3 with h | h
    · exact h
    · have : opAt l i = (ends (l.getD k0 (0, 0, 0))).1 := congrArg (·.1) a5
      unfold ends at this
      rw [if_neg (show ¬ (l.getD k0 (0, 0, 0)).1 = 21 from fun h2 => by unfold opAt at h; rw [h2] at h; cases h), h22] at this
      cases this
  refine ⟨k0, a1, a2, h21, a4, ?_, lps_loop hF (by omega) h21, ?_⟩
  · rw [← lps_loop hF (by omega) h21]
    refine lps_same (by omega) fun k hk => ?_
    rw [a6, enc_succ hF (by omega) (by rw [h21]; decide) (by rw [h21]; decide), a3, Bool.and_true]
  · exact lps_same (by omega) fun k hk => a7 k
theorem lps_mem {l : List Ins} {m : List Int} {i k : Nat} (h : k ∈ lps l m i) : enc l m k i = true ∧ opAt l k = 21 := by
  unfold lps at h
  rw [List.mem_filter, Bool.and_eq_true, beq_iff_eq] at h
  exact h.2
theorem HeldB.same {l : List Ins} {m : List Int} {i q v : Nat} (h : HeldB l m i v) (he : ∀ k, opAt l k = 23 → enc l m k q = enc l m k i) : HeldB l m q v :=
  ⟨h.1, fun b => (h.2 b).trans ⟨fun ⟨k, k1, k2, k3⟩ => ⟨k, (he k k2).trans k1, k2, k3⟩, fun ⟨k, k1, k2, k3⟩ => ⟨k, (he k k2).symm.trans k1, k2, k3⟩⟩⟩
theorem HeldB.plain {l : List Ins} {m h : List Int} (hF : Fine l m h) {i v : Nat} (hi : i < l.length) (hv : HeldB l m i v) (h23 : opAt l i ≠ 23) (h22 : opAt l i ≠ 22) (h24 : opAt l i ≠ 24) : HeldB l m (i + 1) v :=
  hv.same fun k hk => by
    rw [enc_succ hF hi h22 h24]
    by_cases hki : k = i
    · exact absurd (hki ▸ hk) h23
    · rw [decide_eq_false hki]; rfl
theorem HeldB.jump {l : List Ins} {m h : List Int} (hF : Fine l m h) {i v : Nat} (hi : i < l.length) (hv : HeldB l m i v) (hj : opAt l i = 19 ∨ opAt l i = 20) : HeldB l m (jumpTo l i) v := hv.same fun k _ => hF.jump_enc hi hj k
theorem HeldB.next {l : List Ins} {m h : List Int} (hF : Fine l m h) {i v : Nat} (hi : i < l.length) (hv : HeldB l m i v) (h22 : opAt l i = 22) : ∃ k0 : Nat, m.getD i 0 = (k0 : Int) ∧ HeldB l m (k0 + 1) v ∧ HeldB l m (i + 1) v := by
  obtain ⟨k0, a1, a2, a3, a4, a5, a6, a7⟩ := enc_close hF hi (.inl h22)
  obtain ⟨k1, b1, b2, b3, b4, b5⟩ := lps_next hF hi h22
  have : k0 = k1 := by rw [a1] at b1; omega
  subst this
  refine ⟨k0, a1, ?_, ?_⟩
  · refine hv.same fun k hk => ?_
    rw [a6, enc_succ hF (by omega) (by rw [b3]; decide) (by rw [b3]; decide), a3, Bool.and_true]
  · refine hv.same fun k hk => ?_
    rw [a7, a6]
    by_cases hkk : k = k0
    · subst hkk; rw [b3] at hk; cases hk
    · rw [decide_eq_false hkk, Bool.false_or]
theorem HeldB.lockS {l : List Ins} {m h : List Int} (hF : Fine l m h) {i v : Nat} (hi : i < l.length) (hv : HeldB l m i v) (h23 : opAt l i = 23) {a : Nat} (ha : argA l i = (a : Int)) (ha7 : a ≤ 7) : HeldB l m (i + 1) (v ||| 2 ^ a) := by
  have ho := isOpen_op (.inr h23)
  refine ⟨Nat.or_lt_two_pow (n := 8) hv.1 (Nat.pow_lt_pow_right (by omega) (by omega)), fun b => ?_⟩
  rw [Nat.testBit_or, Bool.or_eq_true, hv.2 b, Nat.testBit_two_pow, decide_eq_true_eq]
  constructor
  · rintro (⟨k, k1, k2, k3⟩ | h1)
    · exact ⟨k, by rw [enc_succ hF hi (by rw [h23]; decide) (by rw [h23]; decide), k1, Bool.or_true], k2, k3⟩
    · subst h1
      exact ⟨i, by rw [enc_succ hF hi (by rw [h23]; decide) (by rw [h23]; decide), ho, decide_eq_true rfl]; rfl, h23, ha⟩
  · rintro ⟨k, k1, k2, k3⟩
    rw [enc_succ hF hi (by rw [h23]; decide) (by rw [h23]; decide), ho, Bool.and_true, Bool.or_eq_true, decide_eq_true_eq] at k1
    rcases k1 with k1 | k1
    · subst k1
      right
      have : argA l k = (b : Int) := k3
      rw [ha] at this
      omega
    · exact .inl ⟨k, k1, k2, k3⟩
def Rise (l : List Ins) (m : List Int) : Prop := ∀ i k, i < l.length → opAt l i = 23 → enc l m k i = true → opAt l k = 23 → argA l k < argA l i
theorem HeldB.unlock {l : List Ins} {m h : List Int} (hF : Fine l m h) (hR : Rise l m) {i v : Nat} (hi : i < l.length) (hv : HeldB l m i v) (h24 : opAt l i = 24) {a : Nat} (ha : argA l i = (a : Int)) {w : Nat} (hw : w < 256) (hwv : ∀ b, w.testBit b = (v.testBit b && decide (b ≠ a))) : HeldB l m (i + 1) w := by
  obtain ⟨k0, a1, a2, a3, a4, a5, a6, a7⟩ := enc_close hF hi (.inr h24)
  have h23 : opAt l k0 = 23 ∧ argA l k0 = argA l i := by
    rcases isOpen_iff.1 a3 with h | h
    · have : opAt l i = (ends (l.getD k0 (0, 0, 0))).1 := congrArg (·.1) a5
      unfold ends at this
      rw [if_pos (show (l.getD k0 (0, 0, 0)).1 = 21 from h), h24] at this
      cases this
    · refine ⟨h, ?_⟩
      have : argA l i = (ends (l.getD k0 (0, 0, 0))).2.1 := congrArg (·.2.1) a5
      unfold ends at this
      rw [if_neg (show ¬ (l.getD k0 (0, 0, 0)).1 = 21 from fun h2 => by unfold opAt at h; rw [h2] at h; cases h)] at this
      exact this.symm
  refine ⟨hw, fun b => ?_⟩
  rw [hwv b, Bool.and_eq_true, hv.2 b, decide_eq_true_eq]
  constructor
  · rintro ⟨⟨k, k1, k2, k3⟩, hb⟩
    refine ⟨k, ?_, k2, k3⟩
    rw [a6, Bool.or_eq_true, decide_eq_true_eq] at k1
    rw [a7]
    rcases k1 with k1 | k1
    · subst k1
      have : argA l k = (b : Int) := k3
      rw [h23.2, ha] at this
      omega
    · exact k1
  · rintro ⟨k, k1, k2, k3⟩
    rw [a7] at k1
    refine ⟨⟨k, by rw [a6, k1, Bool.or_true], k2, k3⟩, fun hb => ?_⟩
    have := hR k0 k (by omega) h23.1 k1 k2
    have k3' : argA l k = (b : Int) := k3
    rw [h23.2, ha, k3'] at this
    omega
theorem locks_whole2 {l : List Ins} (h : locksI l = 0) : wholeI l = 0 := by
  unfold locksI at h
  split at h
  · exact h
  · rename_i h1
    exact Decidable.not_not.1 h1
theorem locks_rise {l : List Ins} (h : locksI l = 0) : Rise l (scanI l).1 := by
  intro i k hi h23 he hk
  have hw := locks_whole2 h
  unfold locksI at h
  rw [if_neg (fun h2 => h2 hw)] at h
  split at h
  · rename_i h1
    have h2 := allF_iff.1 h1 i (Nat.zero_le _) (by omega)
    unfold okQ badI at h2
    rw [if_pos h23] at h2
    rw [Bool.not_eq_true', Bool.or_eq_false_iff] at h2
    have h3 := h2.2
    rcases Int.lt_or_le (argA l k) (argA l i) with h4 | h4
    · exact h4
    · exfalso
      have : overB l (scanI l).1 i = true := anyB_iff.2 ⟨k, (enc_open he).1, by rw [he, hk, decide_eq_true h4]; rfl⟩
      rw [this] at h3
      cases h3
  · cases h
end Go.Proofs.Dk

/- Plain: numbers that go with the types of a stack. -/
namespace Go.Proofs.Dk
open Go
set_option maxRecDepth 100000
set_option linter.unusedVariables false
set_option linter.unusedSimpArgs false
def tyOk (c : UInt8) (x : Int) : Prop := c.toNat = 98 → x = 0 ∨ x = 1
def VTl : List UInt8 → List Int → Prop
  | [], [] => True
  | c :: cs, x :: xs => tyOk c x ∧ VTl cs xs
  | [], _ :: _ => False
  | _ :: _, [] => False
theorem VTl_len : ∀ {cs : List UInt8} {v : List Int}, VTl cs v → v.length = cs.length
  | [], [], _ => rfl
  | c :: cs, x :: xs, h => congrArg (· + 1) (VTl_len h.2)
theorem VTl_app : ∀ {a b : List UInt8} {v w : List Int}, VTl a v → VTl b w → VTl (a ++ b) (v ++ w)
  | [], b, [], w, _, h => h
  | c :: cs, b, x :: xs, w, h, h' => ⟨h.1, VTl_app h.2 h'⟩
theorem VTl_split : ∀ {a b : List UInt8} {v : List Int}, VTl (a ++ b) v → ∃ r w, v = r ++ w ∧ VTl a r ∧ VTl b w
  | [], b, v, h => ⟨[], v, rfl, trivial, h⟩
  | c :: cs, b, x :: xs, h => by
    obtain ⟨r, w, e, h1, h2⟩ := VTl_split (a := cs) h.2
    exact ⟨x :: r, w, by rw [e]; rfl, ⟨h.1, h1⟩, h2⟩
theorem VTl_1 {c : UInt8} : ∀ {w : List Int}, VTl [c] w → ∃ x, w = [x] ∧ tyOk c x
  | [x], h => ⟨x, rfl, h.1⟩
  | _ :: _ :: _, h => h.2.elim
theorem VTl_2 {c d : UInt8} : ∀ {w : List Int}, VTl [c, d] w → ∃ x y, w = [x, y] ∧ tyOk c x ∧ tyOk d y
  | [x, y], h => ⟨x, y, rfl, h.1, h.2.1⟩
  | [_], h => h.2.elim
  | _ :: _ :: _ :: _, h => h.2.2.elim
theorem VTl_get : ∀ {cs : List UInt8} {v : List Int} {k : Nat}, VTl cs v → (cs.getD k 0).toNat = 98 → v.getD k 0 = 0 ∨ v.getD k 0 = 1
  | [], [], k, _, h => by simp at h
  | c :: cs, x :: xs, 0, h, h2 => h.1 h2
  | c :: cs, x :: xs, k + 1, h, h2 => VTl_get (k := k) h.2 h2
def VT (s : ByteArray) (v : List Int) : Prop := VTl s.data.toList v
theorem VT.len {s : ByteArray} {v : List Int} (h : VT s v) : v.length = s.size := (VTl_len h).trans Array.length_toList
theorem VT.get {s : ByteArray} {v : List Int} (h : VT s v) {k : Nat} (h2 : bt s (k : Int) = 98) : v.getD k 0 = 0 ∨ v.getD k 0 = 1 := by
  unfold bt at h2
  rw [Int.toNat_natCast] at h2
  exact VTl_get h (by omega)
theorem after_parts {x : Ins} {s : ByteArray} (h : (afterI x s).2 = 0) : ∃ (a : List UInt8) (T : ByteArray), s.data.toList = a ++ T.data.toList ∧ fitsB T (takesI x.1) = true ∧ (afterI x s).1.data.toList = a ++ (givesI x.1 x.2.1 T).data.toList := by
  unfold afterI at h ⊢
  split at h
  · cases h
  · rename_i h1
    rw [if_neg h1]
    split at h
    · rename_i h2
      rw [if_pos h2]
      split at h
      · cases h
      · rename_i h3
        rw [if_neg h3]
        refine ⟨(s.extract 0 (s.size - (takesI x.1).size)).data.toList, s.extract (s.size - (takesI x.1).size) s.size, ?_, h2, ?_⟩
        · rw [ByteArray.data_extract, ByteArray.data_extract, Array.toList_extract, Array.toList_extract, List.extract_eq_take_drop, List.extract_eq_take_drop]
          have e : s.data.toList.length = s.size := Array.length_toList
          generalize hn : s.size - (takesI x.1).size = n
          rw [List.drop_zero, List.take_of_length_le (l := List.drop n s.data.toList) (by rw [List.length_drop, e]; exact Nat.le_refl _), List.take_append_drop]
        · rw [ByteArray.data_append, Array.toList_append]
    · cases h
theorem fits_bt {T b : ByteArray} (h : fitsB T b = true) : T.size = b.size ∧ ∀ k, k < b.size → bt b (k : Int) = 32 ∨ bt b (k : Int) = bt T (k : Int) := by
  refine ⟨fits_size h, fun k hk => ?_⟩
  unfold fitsB at h
  rw [Bool.and_eq_true] at h
  have h2 := allF_iff.1 h.2 k (Nat.zero_le _) (by omega)
  unfold fitQ at h2
  rw [Bool.or_eq_true, beq_iff_eq, beq_iff_eq] at h2
  exact h2
theorem fits0 {T : ByteArray} (h : fitsB T (ByteArray.mk #[]) = true) : T.data.toList = [] := by
  have h1 := (fits_bt h).1
  apply List.eq_nil_of_length_eq_zero
  rw [Array.length_toList]
  exact h1
theorem fits1 {T : ByteArray} {c : UInt8} (h : fitsB T (ByteArray.mk #[c]) = true) : ∃ d : UInt8, T.data.toList = [d] ∧ (c.toNat = 32 ∨ d.toNat = c.toNat) := by
  obtain ⟨h1, h2⟩ := fits_bt h
  have h3 : T.data.toList.length = 1 := by rw [Array.length_toList]; exact h1
  obtain ⟨d, hd⟩ := List.length_eq_one_iff.1 h3
  refine ⟨d, hd, ?_⟩
  have h4 := h2 0 (by show 0 < 1; decide)
  unfold bt at h4
  rw [hd] at h4
  have e : (((ByteArray.mk #[c]).data.toList.getD ((0 : Nat) : Int).toNat 0).toNat : Int) = (c.toNat : Int) := rfl
  rw [e] at h4
  have e2 : (([d].getD ((0 : Nat) : Int).toNat 0).toNat : Int) = (d.toNat : Int) := rfl
  rw [e2] at h4
  omega
theorem fits2 {T : ByteArray} {c c' : UInt8} (h : fitsB T (ByteArray.mk #[c, c']) = true) : ∃ d d' : UInt8, T.data.toList = [d, d'] ∧ (c.toNat = 32 ∨ d.toNat = c.toNat) ∧ (c'.toNat = 32 ∨ d'.toNat = c'.toNat) := by
  obtain ⟨h1, h2⟩ := fits_bt h
  have h3 : T.data.toList.length = 2 := by rw [Array.length_toList]; exact h1
  obtain ⟨d, d', hd⟩ : ∃ d d', T.data.toList = [d, d'] := by
    match hT : T.data.toList, h3 with
    | [d, d'], _ => exact ⟨d, d', rfl⟩
  refine ⟨d, d', hd, ?_, ?_⟩
  · have h4 := h2 0 (by show 0 < 2; decide)
    unfold bt at h4
    rw [hd] at h4
    have e : (((ByteArray.mk #[c, c']).data.toList.getD ((0 : Nat) : Int).toNat 0).toNat : Int) = (c.toNat : Int) := rfl
    have e2 : (([d, d'].getD ((0 : Nat) : Int).toNat 0).toNat : Int) = (d.toNat : Int) := rfl
    rw [e, e2] at h4
    omega
  · have h4 := h2 1 (by show 1 < 2; decide)
    unfold bt at h4
    rw [hd] at h4
    have e : (((ByteArray.mk #[c, c']).data.toList.getD ((1 : Nat) : Int).toNat 0).toNat : Int) = (c'.toNat : Int) := rfl
    have e2 : (([d, d'].getD ((1 : Nat) : Int).toNat 0).toNat : Int) = (d'.toNat : Int) := rfl
    rw [e, e2] at h4
    omega
theorem VT_app {s' : ByteArray} {a g : List UInt8} {r w : List Int} (e : s'.data.toList = a ++ g) (h1 : VTl a r) (h2 : VTl g w) : VT s' (r ++ w) := by
  unfold VT
  rw [e]
  exact VTl_app h1 h2
theorem ty105 (x : Int) : tyOk 105 x := fun h => by cases h
theorem vt_zero {o A B : Int} {s : ByteArray} {v : List Int} (h : (afterI (o, A, B) s).2 = 0) (hv : VT s v) (e : takesI o = ByteArray.mk #[]) {w : List Int} {g : List UInt8} (hg : (givesI o A (ByteArray.mk #[])).data.toList = g) (hw : VTl g w) : VT (afterI (o, A, B) s).1 (v ++ w) := by
  obtain ⟨a, T, h1, h2, h3⟩ := after_parts h
  have h2' : fitsB T (takesI o) = true := h2
  rw [e] at h2'
  have hT := fits0 h2'
  have hT2 : T = ByteArray.mk #[] := by
    cases T
    congr 1
    exact Array.toList_inj.1 hT
  subst hT2
  rw [hT, List.append_nil] at h1
  have hv' : VTl a v := by unfold VT at hv; rw [h1] at hv; exact hv
  exact VT_app (h3.trans (congrArg (a ++ ·) hg)) hv' hw
theorem vt_in {o A B : Int} {s : ByteArray} {v : List Int} (h : (afterI (o, A, B) s).2 = 0) (hv : VT s v) (e : o = 1 ∨ o = 11 ∨ o = 13 ∨ o = 15 ∨ o = 17) (y : Int) : VT (afterI (o, A, B) s).1 (v ++ [y]) := by
  have hg : (givesI o A (ByteArray.mk #[])).data.toList = [105] := by
    unfold givesI
    rw [if_pos (by omega)]
  have hw : VTl [105] [y] := ⟨ty105 y, trivial⟩
  have ht : takesI o = ByteArray.mk #[] := by rcases e with rfl | rfl | rfl | rfl | rfl <;> kernel_rfl
  exact vt_zero h hv ht hg hw
theorem vt_no {o A B : Int} {s : ByteArray} {v : List Int} (h : (afterI (o, A, B) s).2 = 0) (hv : VT s v) (e : o = 19 ∨ o = 21 ∨ o = 22 ∨ o = 23 ∨ o = 24 ∨ o = 25) : VT (afterI (o, A, B) s).1 v := by
  have hg : (givesI o A (ByteArray.mk #[])).data.toList = [] := by
    unfold givesI
    rw [if_neg (by omega), if_neg (by omega), if_neg (by omega), if_neg (by omega), if_neg (by omega)]
  have hw : VTl [] [] := trivial
  have ht : takesI o = ByteArray.mk #[] := by rcases e with rfl | rfl | rfl | rfl | rfl | rfl <;> kernel_rfl
  have := vt_zero h hv ht hg hw
  rw [List.append_nil] at this
  exact this
theorem vt_one {o A B : Int} {s : ByteArray} {v : List Int} (h : (afterI (o, A, B) s).2 = 0) (hv : VT s v) {c : UInt8} (e : takesI o = ByteArray.mk #[c]) : ∃ (a : List UInt8) (r : List Int) (x : Int) (T : ByteArray) (d : UInt8), v = r ++ [x] ∧ T.data.toList = [d] ∧ (c.toNat = 32 ∨ d.toNat = c.toNat) ∧ tyOk d x ∧ VTl a r ∧ (afterI (o, A, B) s).1.data.toList = a ++ (givesI o A T).data.toList := by
  obtain ⟨a, T, h1, h2, h3⟩ := after_parts h
  have h2' : fitsB T (takesI o) = true := h2
  rw [e] at h2'
  obtain ⟨d, hT, hd⟩ := fits1 h2'
  unfold VT at hv
  rw [h1, hT] at hv
  obtain ⟨r, w, e1, e2, e3⟩ := VTl_split hv
  obtain ⟨x, e4, e5⟩ := VTl_1 e3
  exact ⟨a, r, x, T, d, by rw [e1, e4], hT, hd, e5, e2, h3⟩
theorem vt_out {o A B : Int} {s : ByteArray} {v : List Int} (h : (afterI (o, A, B) s).2 = 0) (hv : VT s v) (e : o = 2 ∨ o = 12 ∨ o = 14 ∨ o = 16 ∨ o = 18 ∨ o = 20) : ∃ r x, v = r ++ [x] ∧ VT (afterI (o, A, B) s).1 r := by
  have hg : ∀ T, givesI o A T = ByteArray.mk #[] := fun T => by
    unfold givesI
    rw [if_neg (by omega), if_neg (by omega), if_neg (by omega), if_neg (by omega), if_neg (by omega)]
  have ht : ∃ c : UInt8, takesI o = ByteArray.mk #[c] := by
    rcases e with rfl | rfl | rfl | rfl | rfl | rfl
    · exact ⟨32, by kernel_rfl⟩
    · exact ⟨105, by kernel_rfl⟩
    · exact ⟨105, by kernel_rfl⟩
    · exact ⟨105, by kernel_rfl⟩
    · exact ⟨105, by kernel_rfl⟩
    · exact ⟨98, by kernel_rfl⟩
  obtain ⟨c, hc⟩ := ht
  obtain ⟨a, r, x, T, d, e1, e2, e3, e4, e5, e6⟩ := vt_one h hv hc
  rw [hg T] at e6
  have := VT_app (g := []) (w := []) e6 e5 trivial
  rw [List.append_nil] at this
  exact ⟨r, x, e1, this⟩
theorem vt_dup {o A B : Int} {s : ByteArray} {v : List Int} (h : (afterI (o, A, B) s).2 = 0) (hv : VT s v) (ho : o = 3) : ∃ r x, v = r ++ [x] ∧ VT (afterI (o, A, B) s).1 (r ++ [x, x]) := by
  have ht : takesI o = ByteArray.mk #[32] := by subst ho; kernel_rfl
  obtain ⟨a, r, x, T, d, e1, e2, e3, e4, e5, e6⟩ := vt_one h hv ht
  have hg : givesI o A T = T ++ T := by
    unfold givesI
    rw [if_neg (by omega), if_pos ho]
  rw [hg, ByteArray.data_append, Array.toList_append, e2] at e6
  exact ⟨r, x, e1, VT_app e6 e5 ⟨e4, e4, trivial⟩⟩
theorem vt_neg {o A B : Int} {s : ByteArray} {v : List Int} (h : (afterI (o, A, B) s).2 = 0) (hv : VT s v) (ho : o = 6) : ∃ r x, v = r ++ [x] ∧ ∀ z, VT (afterI (o, A, B) s).1 (r ++ [z]) := by
  have ht : takesI o = ByteArray.mk #[105] := by subst ho; kernel_rfl
  obtain ⟨a, r, x, T, d, e1, e2, e3, e4, e5, e6⟩ := vt_one h hv ht
  have hg : givesI o A T = ByteArray.mk #[105] := by
    unfold givesI
    rw [if_pos (by omega)]
  rw [hg] at e6
  exact ⟨r, x, e1, fun z => VT_app (g := [105]) e6 e5 ⟨ty105 z, trivial⟩⟩
theorem vt_not {o A B : Int} {s : ByteArray} {v : List Int} (h : (afterI (o, A, B) s).2 = 0) (hv : VT s v) (ho : o = 7) : ∃ r x, v = r ++ [x] ∧ (x = 0 ∨ x = 1) ∧ ∀ z, z = 0 ∨ z = 1 → VT (afterI (o, A, B) s).1 (r ++ [z]) := by
  have ht : takesI o = ByteArray.mk #[98] := by subst ho; kernel_rfl
  obtain ⟨a, r, x, T, d, e1, e2, e3, e4, e5, e6⟩ := vt_one h hv ht
  have hg : givesI o A T = ByteArray.mk #[98] := by
    unfold givesI
    rw [if_neg (by omega), if_neg (by omega), if_neg (by omega), if_neg (by omega), if_pos (by omega)]
  rw [hg] at e6
  exact ⟨r, x, e1, e4 (e3.elim (fun h => by cases h) fun h => h), fun z hz => VT_app (g := [98]) e6 e5 ⟨fun _ => hz, trivial⟩⟩
theorem vt_cast {o A B : Int} {s : ByteArray} {v : List Int} (h : (afterI (o, A, B) s).2 = 0) (hv : VT s v) (ho : o = 10) : VT (afterI (o, A, B) s).1 v := by
  have ht : takesI o = ByteArray.mk #[98] := by subst ho; kernel_rfl
  obtain ⟨a, r, x, T, d, e1, e2, e3, e4, e5, e6⟩ := vt_one h hv ht
  have hg : givesI o A T = ByteArray.mk #[105] := by
    unfold givesI
    rw [if_pos (by omega)]
  rw [hg] at e6
  rw [e1]
  exact VT_app (g := [105]) e6 e5 ⟨ty105 x, trivial⟩
theorem vt_two {o A B : Int} {s : ByteArray} {v : List Int} (h : (afterI (o, A, B) s).2 = 0) (hv : VT s v) {c c' : UInt8} (e : takesI o = ByteArray.mk #[c, c']) : ∃ (a : List UInt8) (r : List Int) (x y : Int) (T : ByteArray) (d d' : UInt8), v = r ++ [x, y] ∧ T.data.toList = [d, d'] ∧ (c.toNat = 32 ∨ d.toNat = c.toNat) ∧ (c'.toNat = 32 ∨ d'.toNat = c'.toNat) ∧ tyOk d x ∧ tyOk d' y ∧ VTl a r ∧ (afterI (o, A, B) s).1.data.toList = a ++ (givesI o A T).data.toList := by
  obtain ⟨a, T, h1, h2, h3⟩ := after_parts h
  have h2' : fitsB T (takesI o) = true := h2
  rw [e] at h2'
  obtain ⟨d, d', hT, hd, hd'⟩ := fits2 h2'
  unfold VT at hv
  rw [h1, hT] at hv
  obtain ⟨r, w, e1, e2, e3⟩ := VTl_split hv
  obtain ⟨x, y, e4, e5, e6⟩ := VTl_2 e3
  exact ⟨a, r, x, y, T, d, d', by rw [e1, e4], hT, hd, hd', e5, e6, e2, h3⟩
theorem vt_swap {o A B : Int} {s : ByteArray} {v : List Int} (h : (afterI (o, A, B) s).2 = 0) (hv : VT s v) (ho : o = 4) : ∃ r x y, v = r ++ [x, y] ∧ VT (afterI (o, A, B) s).1 (r ++ [y, x]) := by
  have ht : takesI o = ByteArray.mk #[32, 32] := by subst ho; kernel_rfl
  obtain ⟨a, r, x, y, T, d, d', e1, e2, e3, e3', e4, e4', e5, e6⟩ := vt_two h hv ht
  have hg : givesI o A T = T.extract 1 T.size ++ T.extract 0 1 := by
    unfold givesI
    rw [if_neg (by omega), if_neg (by omega), if_pos ho]
  have hs : T.size = 2 := by
    have : T.data.toList.length = T.size := Array.length_toList
    rw [e2] at this
    exact this.symm
  have e7 : (T.extract 1 T.size ++ T.extract 0 1).data.toList = [d', d] := by
    rw [ByteArray.data_append, Array.toList_append, ByteArray.data_extract, ByteArray.data_extract, Array.toList_extract, Array.toList_extract, List.extract_eq_take_drop, List.extract_eq_take_drop, e2, hs]
    rfl
  rw [hg, e7] at e6
  exact ⟨r, x, y, e1, VT_app e6 e5 ⟨e4', e4, trivial⟩⟩
theorem vt_bin {o A B : Int} {s : ByteArray} {v : List Int} (h : (afterI (o, A, B) s).2 = 0) (hv : VT s v) (ho : o = 5) : ∃ r x y, v = r ++ [x, y] ∧ ∀ z, (11 ≤ A → z = 0 ∨ z = 1) → VT (afterI (o, A, B) s).1 (r ++ [z]) := by
  have ht : takesI o = ByteArray.mk #[105, 105] := by subst ho; kernel_rfl
  obtain ⟨a, r, x, y, T, d, d', e1, e2, e3, e3', e4, e4', e5, e6⟩ := vt_two h hv ht
  refine ⟨r, x, y, e1, fun z hz => ?_⟩
  by_cases hA : A ≥ 11
  · have hg : givesI o A T = ByteArray.mk #[98] := by
      unfold givesI
      rw [if_neg (by omega), if_neg (by omega), if_neg (by omega), if_pos ho, if_pos hA]
    rw [hg] at e6
    exact VT_app (g := [98]) e6 e5 ⟨fun _ => hz hA, trivial⟩
  · have hg : givesI o A T = ByteArray.mk #[105] := by
      unfold givesI
      rw [if_neg (by omega), if_neg (by omega), if_neg (by omega), if_pos ho, if_neg hA]
    rw [hg] at e6
    exact VT_app (g := [105]) e6 e5 ⟨ty105 z, trivial⟩
theorem vt_log {o A B : Int} {s : ByteArray} {v : List Int} (h : (afterI (o, A, B) s).2 = 0) (hv : VT s v) (ho : o = 8 ∨ o = 9) : ∃ r x y, v = r ++ [x, y] ∧ (x = 0 ∨ x = 1) ∧ (y = 0 ∨ y = 1) ∧ ∀ z, z = 0 ∨ z = 1 → VT (afterI (o, A, B) s).1 (r ++ [z]) := by
  have ht : takesI o = ByteArray.mk #[98, 98] := by rcases ho with rfl | rfl <;> kernel_rfl
  have hg : ∀ T, givesI o A T = ByteArray.mk #[98] := fun T => by
    unfold givesI
    rw [if_neg (by omega), if_neg (by omega), if_neg (by omega), if_neg (by omega), if_pos (by omega)]
  obtain ⟨a, r, x, y, T, d, d', e1, e2, e3, e3', e4, e4', e5, e6⟩ := vt_two h hv ht
  rw [hg T] at e6
  exact ⟨r, x, y, e1, e4 (e3.elim (fun h => by cases h) fun h => h), e4' (e3'.elim (fun h => by cases h) fun h => h), fun z hz => VT_app (g := [98]) e6 e5 ⟨fun _ => hz, trivial⟩⟩
end Go.Proofs.Dk

/- Plain: the steps of ways, as the document says. -/
namespace Go.Proofs.Dk
open Go
set_option maxRecDepth 100000
set_option linter.unusedVariables false
set_option linter.unusedSimpArgs false
structure LQ (d : List Int) (s : List Bool) (D : Nat → Int) (a z : Nat) : Prop where
  dl : d.length = z - a + 1
  sl : s.length = z - a + 1
  at_ : ∀ k, a ≤ k → k ≤ z → d.getD (k - a) 0 = (if D k = -1 then 0 else D k) ∧ s.getD (k - a) false = (D k != -1)
theorem getD_setB {l : List Bool} {i j : Nat} {v d : Bool} (h : i < l.length) : (l.set i v).getD j d = if j = i then v else l.getD j d := getD_set h
theorem LQ.put {d : List Int} {s : List Bool} {D : Nat → Int} {a z : Nat} (h : LQ d s D a z) (b : Int → Int → Int) {k : Nat} (hk : a ≤ k) (hk2 : k ≤ z) {v x : Int} (hx : x = if D k = -1 then v else b (D k) v) (hx0 : x ≠ -1) : LQ (d.set (k - a) x) (s.set (k - a) true) (putI b D k v) a z := by
  have h1 := h.dl
  have h2 := h.sl
  refine ⟨by rw [List.length_set, h1], by rw [List.length_set, h2], fun j j1 j2 => ?_⟩
  rw [getD_set (by omega), getD_setB (by omega)]
  unfold putI
  by_cases e : j = k
  · subst e
    rw [if_pos rfl, if_pos rfl, if_pos rfl, ← hx, if_neg hx0]
    exact ⟨rfl, (bne_iff_ne.2 hx0).symm⟩
  · have e3 : ¬ (j - a = k - a) := by omega
    simp only [e3, e, if_false]
    exact h.at_ j j1 j2
theorem LQ.same {d : List Int} {s : List Bool} {D : Nat → Int} {a z : Nat} (h : LQ d s D a z) (b : Int → Int → Int) {k : Nat} {v : Int} (h1 : D k ≠ -1) (h2 : b (D k) v = D k) : LQ d s (putI b D k v) a z := by
  refine ⟨h.dl, h.sl, fun j j1 j2 => ?_⟩
  unfold putI
  by_cases e : j = k
  · subst e
    rw [if_pos rfl, if_neg h1, h2]
    exact h.at_ j j1 j2
  · rw [if_neg e]
    exact h.at_ j j1 j2
end Go.Proofs.Dk

/- Plain: the steps of ways, as the document says, on. -/
namespace Go.Proofs.Dk
open Go
set_option maxRecDepth 100000
set_option linter.unusedVariables false
set_option linter.unusedSimpArgs false
end Go.Proofs.Dk

/- Plain: steps of rows, sections. -/
namespace Go.Proofs.Dk
open Go
set_option maxRecDepth 100000
set_option linter.unusedVariables false
set_option linter.unusedSimpArgs false
end Go.Proofs.Dk

/- Plain: rows in which nothing is left out; sections that are alike. -/
namespace Go.Proofs.Dk
open Go
set_option maxRecDepth 100000
set_option linter.unusedVariables false
set_option linter.unusedSimpArgs false
end Go.Proofs.Dk

/- Plain: longest ways: what stands in a way is no longer than it. -/
namespace Go.Proofs.Dk
open Go
set_option maxRecDepth 100000
set_option linter.unusedVariables false
set_option linter.unusedSimpArgs false
theorem Reg.hop {l : List Ins} {m : List Int} {a z : Nat} (hR : Reg l m a z) {i : Nat} (h1 : a ≤ i) (h2 : i < z) : hopsI l m i ≠ [] ∧ ∀ k ∈ hopsI l m i, i < k ∧ k ≤ z := by
  unfold hopsI
  by_cases h21 : opAt l i = 21
  · rw [if_pos h21]
    obtain ⟨j, j1, j2, j3⟩ := hR.loop i h1 h2 (isOpen_iff.2 (.inl h21))
    refine ⟨by simp, fun k hk => ?_⟩
    have : k = mN m i + 1 := by simpa using hk
    unfold mN at this
    rw [j1] at this
    simp at this
    omega
  · rw [if_neg h21]
    by_cases h19 : opAt l i = 19
    · rw [if_pos h19]
      have := hR.jump i h1 h2 (.inl h19)
      refine ⟨by simp, fun k hk => ?_⟩
      have e : k = jumpTo l i := by simpa using hk
      subst e
      refine ⟨?_, this⟩
      unfold jumpTo
      omega
    · rw [if_neg h19]
      by_cases h20 : opAt l i = 20
      · rw [if_pos h20]
        have := hR.jump i h1 h2 (.inr h20)
        refine ⟨by simp, fun k hk => ?_⟩
        have e : k = jumpTo l i ∨ k = i + 1 := by simpa using hk
        rcases e with e | e
        · subst e
          refine ⟨?_, this⟩
          unfold jumpTo
          omega
        · omega
      · rw [if_neg h20]
        exact ⟨by simp, fun k hk => by
          have e : k = i + 1 := by simpa using hk
          omega⟩
end Go.Proofs.Dk

/- Plain: sections stand in one another. -/
namespace Go.Proofs.Dk
open Go
set_option maxRecDepth 100000
set_option linter.unusedVariables false
set_option linter.unusedSimpArgs false
end Go.Proofs.Dk

/- Plain: straight rows: each instruction is gone through. -/
namespace Go.Proofs.Dk
open Go
set_option maxRecDepth 100000
set_option linter.unusedVariables false
set_option linter.unusedSimpArgs false
end Go.Proofs.Dk

/- Plain: rows alike but for a loop's rounds. -/
namespace Go.Proofs.Dk
open Go
set_option maxRecDepth 100000
set_option linter.unusedVariables false
set_option linter.unusedSimpArgs false
structure Near (l l' : List Ins) (q : Nat) : Prop where
  len : l'.length = l.length
  else_ : ∀ i, i ≠ q → l'.getD i (0, 0, 0) = l.getD i (0, 0, 0)
  op : opAt l q = 21 ∧ opAt l' q = 21
theorem Near.opAt {l l' : List Ins} {q : Nat} (h : Near l l' q) (i : Nat) : opAt l' i = opAt l i := by
  by_cases e : i = q
  · subst e; rw [h.op.1, h.op.2]
  · unfold Go.Proofs.Dk.opAt; rw [h.else_ i e]
theorem Near.scanStep {l l' : List Ins} {q : Nat} (h : Near l l' q) (i : Nat) (m hh : List Int) (op : List (Int × Ins)) : scanStep (l'.getD i (0, 0, 0)) i m hh op = scanStep (l.getD i (0, 0, 0)) i m hh op := by
  by_cases e : i = q
  · subst e
    have h1 : (l.getD i (0, 0, 0)).1 = 21 := h.op.1
    have h2 : (l'.getD i (0, 0, 0)).1 = 21 := h.op.2
    unfold Go.Proofs.Dk.scanStep ends
    simp only [h1, h2, true_or, if_true]
  · rw [h.else_ i e]
theorem Near.scanS {l l' : List Ins} {q : Nat} (h : Near l l' q) : ∀ (r i : Nat) (m hh : List Int) (op : List (Int × Ins)), scanS l' r i m hh op = scanS l r i m hh op
  | 0, i, m, hh, op => rfl
  | r + 1, i, m, hh, op => by
    unfold Go.Proofs.Dk.scanS
    rw [h.scanStep]
    split
    · exact Near.scanS h r _ _ _ _
    · rfl
theorem Near.scanI {l l' : List Ins} {q : Nat} (h : Near l l' q) (h1 : (scanI l).2.2 = 0) (h2 : (Go.Proofs.Dk.scanI l').2.2 = 0) : Go.Proofs.Dk.scanI l' = Go.Proofs.Dk.scanI l := by
  have r1 := (scanI_nest h1).row
  have r2 := (scanI_nest h2).row
  unfold Go.Proofs.Dk.scanI
  rw [if_pos r1, if_pos r2, h.len, h.scanS]
theorem arg21 {l : List Ins} {i : Nat} (hr : rightI (l.getD i (0, 0, 0)) = true) (e : opAt l i = 21) : 1 ≤ argA l i ∧ argA l i ≤ 1000 := by
  rw [show l.getD i (0, 0, 0) = (21, argA l i, (l.getD i (0, 0, 0)).2.2) from by rw [← e]] at hr
  exact right21 hr
end Go.Proofs.Dk

/- Plain: how often each instruction can still come. -/
namespace Go.Proofs.Dk
open Go
set_option maxRecDepth 100000
set_option linter.unusedVariables false
set_option linter.unusedSimpArgs false
def prodA (A : Nat → Int) : List Nat → Int
  | [] => 1
  | k :: js => A k * prodA A js
theorem prodA_pos {A : Nat → Int} : ∀ {js : List Nat}, (∀ k ∈ js, 1 ≤ A k) → 1 ≤ prodA A js
  | [], _ => Int.le_refl _
  | k :: js, h => by
    have h1 := h k (List.mem_cons_self ..)
    have h2 := prodA_pos (js := js) fun q hq => h q (List.mem_cons_of_mem _ hq)
    unfold prodA
    have := Int.mul_le_mul h1 h2 (by omega) (by omega)
    omega
def vis (A : Nat → Int) : List Nat → List (Nat × Int) → Int → Int → Int
  | k :: js, (k', r) :: is, b, S => if k = k' then vis A js is b (S * A k + (r - 1)) else (b + S) * prodA A (k :: js)
  | js, _, b, S => (b + S) * prodA A js
theorem vis_nil (A : Nat → Int) (js : List Nat) (b S : Int) : vis A js [] b S = (b + S) * prodA A js := by
  cases js <;> rfl
theorem vis_nil2 (A : Nat → Int) (is : List (Nat × Int)) (b S : Int) : vis A [] is b S = b + S := by
  cases is <;> simp [vis, prodA]
theorem vis_all {A : Nat → Int} : ∀ {is : List (Nat × Int)} {js : List Nat} {b S : Int}, js = is.map (·.1) → ∃ T, ∀ b, vis A js is b S = b + T
  | [], js, b, S, h => by subst h; exact ⟨S, fun b => by rw [List.map_nil, vis_nil]; simp [prodA]⟩
  | (k, r) :: is, js, b, S, h => by
    subst h
    obtain ⟨T, hT⟩ := vis_all (A := A) (is := is) (b := b) (S := S * A k + (r - 1)) rfl
    refine ⟨T, fun b => ?_⟩
    rw [List.map_cons]
    unfold vis
    rw [if_pos rfl]
    exact hT b
theorem vis_mono {A : Nat → Int} : ∀ {js : List Nat} {is : List (Nat × Int)} {b b' S : Int}, (∀ k ∈ js, 1 ≤ A k) → b' ≤ b → vis A js is b' S ≤ vis A js is b S
  | js, [], b, b', S, hA, hb => by
    rw [vis_nil, vis_nil]
    exact Int.mul_le_mul_of_nonneg_right (by omega) (by have := prodA_pos hA; omega)
  | [], e :: is, b, b', S, hA, hb => by rw [vis_nil2, vis_nil2]; omega
  | k :: js, (k', r) :: is, b, b', S, hA, hb => by
    unfold vis
    split
    · exact vis_mono (fun q hq => hA q (List.mem_cons_of_mem _ hq)) hb
    · exact Int.mul_le_mul_of_nonneg_right (by omega) (by have := prodA_pos hA; omega)
theorem vis_in {A : Nat → Int} : ∀ (il : List (Nat × Int)) (k : Nat) (rest : List Nat) (S : Int), ∃ T, 0 ≤ T + 0 * S ∨ True → ∀ (r b : Int), vis A (il.map (·.1) ++ k :: rest) (il ++ [(k, r)]) b S = (b + (T * A k + (r - 1))) * prodA A rest ∧ vis A (il.map (·.1) ++ k :: rest) il b S = (b + T) * (A k * prodA A rest)
  | [], k, rest, S => ⟨S, fun _ r b => by
      simp only [List.map_nil, List.nil_append]
      refine ⟨?_, ?_⟩
      · unfold vis
        rw [if_pos rfl, vis_nil]
      · rw [vis_nil]; rfl⟩
  | (k0, r0) :: il, k, rest, S => by
    obtain ⟨T, hT⟩ := vis_in (A := A) il k rest (S * A k0 + (r0 - 1))
    refine ⟨T, fun _ r b => ?_⟩
    obtain ⟨h1, h2⟩ := hT (.inr trivial) r b
    simp only [List.map_cons, List.cons_append]
    refine ⟨?_, ?_⟩
    · unfold vis
      rw [if_pos rfl]
      exact h1
    · unfold vis
      rw [if_pos rfl]
      exact h2
theorem vis_out {A : Nat → Int} : ∀ (il : List (Nat × Int)) (js : List Nat) (k : Nat) (r b S : Int), k ∉ js → vis A js (il ++ [(k, r)]) b S = vis A js il b S
  | [], [], k, r, b, S, h => by rw [vis_nil2, vis_nil]; simp [prodA]
  | [], j :: js, k, r, b, S, h => by
    rw [vis_nil, List.nil_append]
    unfold vis
    rw [if_neg (fun (e : j = k) => h (by rw [e]; exact List.mem_cons_self ..))]
  | (k0, r0) :: il, [], k, r, b, S, h => by rw [vis_nil2, vis_nil2]
  | (k0, r0) :: il, j :: js, k, r, b, S, h => by
    rw [List.cons_append]
    unfold vis
    split
    · exact vis_out il js k r b _ fun hk => h (List.mem_cons_of_mem _ hk)
    · rfl
theorem lps_chain {l : List Ins} {m h : List Int} (hF : Fine l m h) {k j : Nat} (hk : k ∈ lps l m j) : ∃ rest, lps l m j = lps l m k ++ k :: rest := by
  obtain ⟨h1, h2⟩ := lps_mem hk
  have hkj := (enc_open h1).1
  have hko := (enc_open h1).2
  obtain ⟨z, z1, z2, z3⟩ := hF.nest.open_ k (open_lt hko) hko
  have hkz := (enc_iff hko z1).1 h1
  refine ⟨(List.range' (k + 1) (j - (k + 1))).filter fun q => enc l m q j && opAt l q == 21, ?_⟩
  unfold lps
  have e : List.range j = List.range k ++ k :: List.range' (k + 1) (j - (k + 1)) := by
    rw [List.range_eq_range', List.range_eq_range', ← List.range'_succ, show j - (k + 1) + 1 = j - k by omega]
    have := List.range'_append_1 (s := 0) (m := k) (n := j - k)
    rw [Nat.zero_add] at this
    rw [this]
    congr 1
    omega
  rw [e, List.filter_append, List.filter_cons, h1, h2]
  congr 1
  apply List.filter_congr
  intro x hx
  rw [List.mem_range] at hx
  congr 1
  apply bool_iff
  by_cases hxo : isOpen l x = true
  · obtain ⟨y, y1, y2, y3⟩ := hF.nest.open_ x (open_lt hxo) hxo
    rw [enc_iff hxo y1, enc_iff hxo y1]
    refine ⟨fun ⟨a1, a2⟩ => ⟨hx, by omega⟩, fun ⟨a1, a2⟩ => ⟨by omega, ?_⟩⟩
    have hyk : y ≠ k := fun hc => by
      have := hF.nest.clos x y (open_lt hxo) hxo y1
      rw [hc, hko] at this; cases this
    obtain ⟨q, q1, q2⟩ := hF.nest.cross x k y hx (by omega) (open_lt hxo) hxo hko y1
    rw [z1] at q1
    omega
  · exact ⟨fun h => absurd (enc_open h).2 hxo, fun h => absurd (enc_open h).2 hxo⟩
def sumI (f : Nat → Int) : Nat → Int
  | 0 => 0
  | n + 1 => sumI f n + f n
theorem sumI_le {f g : Nat → Int} : ∀ {n : Nat}, (∀ j, j < n → f j ≤ g j) → sumI f n ≤ sumI g n
  | 0, _ => Int.le_refl _
  | n + 1, h => by
    have h1 := sumI_le (n := n) fun j hj => h j (by omega)
    have h2 := h n (by omega)
    unfold sumI
    omega
theorem sumI_lt {f g : Nat → Int} {i : Nat} : ∀ {n : Nat}, i < n → (∀ j, j < n → f j ≤ g j) → f i + 1 ≤ g i → sumI f n + 1 ≤ sumI g n
  | 0, h, _, _ => by omega
  | n + 1, hi, h, h1 => by
    unfold sumI
    by_cases e : i = n
    · subst e
      have h2 := sumI_le (n := i) fun j hj => h j (by omega)
      omega
    · have h2 := sumI_lt (n := n) (by omega) (fun j hj => h j (by omega)) h1
      have h3 := h n (by omega)
      omega
def visJ (l : List Ins) (m : List Int) (i : Nat) (rs : List (Nat × Int)) (j : Nat) : Int := vis (argA l) (lps l m j) rs (if i ≤ j then 1 else 0) 0
def phi (l : List Ins) (m : List Int) (i : Nat) (rs : List (Nat × Int)) : Int := sumI (visJ l m i rs) l.length
theorem lps_arg {l : List Ins} {m h : List Int} (hF : Fine l m h) (j : Nat) : ∀ k ∈ lps l m j, 1 ≤ argA l k := fun k hk => by
  obtain ⟨h1, h2⟩ := lps_mem hk
  exact (arg21 (hF.right (open_lt (enc_open h1).2)) h2).1
theorem phi_on {l : List Ins} {m h : List Int} (hF : Fine l m h) {i q : Nat} (hi : i < l.length) (hq : i < q) {rs : List (Nat × Int)} (he : rs.map (·.1) = lps l m i) : phi l m q rs + 1 ≤ phi l m i rs := by
  refine sumI_lt hi (fun j hj => ?_) ?_
  · exact vis_mono (lps_arg hF j) (by split <;> split <;> omega)
  · unfold visJ
    obtain ⟨T, hT⟩ := vis_all (A := argA l) (is := rs) (js := lps l m i) (b := 0) (S := 0) he.symm
    rw [hT, hT, if_pos (Nat.le_refl _), if_neg (by omega)]
    omega
theorem in_after {l : List Ins} {m : List Int} {k j : Nat} (h : k ∈ lps l m j) : k + 1 ≤ j := (enc_open (lps_mem h).1).1
theorem phi_loop {l : List Ins} {m h : List Int} (hF : Fine l m h) {i : Nat} (hi : i < l.length) {rs : List (Nat × Int)} (he : rs.map (·.1) = lps l m i) : phi l m (i + 1) (rs ++ [(i, argA l i)]) + 1 ≤ phi l m i rs := by
  have hni : i ∉ lps l m i := fun h => by have := in_after h; omega
  refine sumI_lt hi (fun j hj => ?_) ?_
  · unfold visJ
    by_cases hk : i ∈ lps l m j
    · obtain ⟨rest, hr⟩ := lps_chain hF hk
      have hj := in_after hk
      rw [hr, ← he]
      obtain ⟨T, hT⟩ := vis_in (A := argA l) rs i rest 0
      obtain ⟨h1, h2⟩ := hT (.inr trivial) (argA l i) 1
      rw [if_pos (by omega), if_pos (by omega), h1, h2, ← Int.mul_assoc]
      refine Int.le_of_eq (congrArg (· * _) ?_)
      rw [Int.add_mul]
      omega
    · rw [vis_out rs _ i _ _ _ hk]
      exact vis_mono (lps_arg hF j) (by split <;> split <;> omega)
  · unfold visJ
    rw [vis_out rs _ i _ _ _ hni]
    obtain ⟨T, hT⟩ := vis_all (A := argA l) (is := rs) (js := lps l m i) (b := 0) (S := 0) he.symm
    rw [hT, hT, if_pos (Nat.le_refl _), if_neg (by omega)]
    omega
theorem phi_next {l : List Ins} {m h : List Int} (hF : Fine l m h) {i k : Nat} (hi : i < l.length) (hki : k < i) (hk21 : opAt l k = 21) (hm : m.getD k 0 = (i : Int)) (e1 : lps l m i = lps l m k ++ [k]) {rs : List (Nat × Int)} (he : rs.map (·.1) = lps l m k) {r : Int} :
    phi l m (k + 1) (rs ++ [(k, r - 1)]) + 1 ≤ phi l m i (rs ++ [(k, r)]) ∧ (r = 1 → phi l m (i + 1) rs + 1 ≤ phi l m i (rs ++ [(k, r)])) := by
  have hko := isOpen_op (.inl hk21)
  have hin : ∀ j, k ∈ lps l m j ↔ k + 1 ≤ j ∧ j ≤ i := fun j => by
    constructor
    · intro h
      have := (enc_iff hko hm).1 (lps_mem h).1
      omega
    · intro hj
      unfold lps
      rw [List.mem_filter, List.mem_range, (enc_iff hko hm).2 ⟨by omega, by omega⟩, hk21]
      exact ⟨by omega, rfl⟩
  have hkey : ∀ j, k ∈ lps l m j → ∃ rest T, 1 ≤ prodA (argA l) rest ∧ ∀ r b : Int, vis (argA l) (lps l m j) (rs ++ [(k, r)]) b 0 = (b + (T * argA l k + (r - 1))) * prodA (argA l) rest ∧ vis (argA l) (lps l m j) rs b 0 = (b + T) * (argA l k * prodA (argA l) rest) := fun j hk => by
    obtain ⟨rest, hr⟩ := lps_chain hF hk
    obtain ⟨T, hT⟩ := vis_in (A := argA l) rs k rest 0
    refine ⟨rest, T, prodA_pos fun q hq => lps_arg hF j q (by rw [hr]; exact List.mem_append_right _ (List.mem_cons_of_mem _ hq)), fun r b => ?_⟩
    rw [hr, ← he]
    exact hT (.inr trivial) r b
  have hi2 : k ∈ lps l m i := (hin i).2 ⟨by omega, Nat.le_refl _⟩
  have hkey2 : ∃ T, ∀ r b : Int, vis (argA l) (lps l m i) (rs ++ [(k, r)]) b 0 = b + (T * argA l k + (r - 1)) ∧ vis (argA l) (lps l m i) rs b 0 = (b + T) * argA l k := by
    obtain ⟨T, hT⟩ := vis_in (A := argA l) rs k [] 0
    refine ⟨T, fun r b => ?_⟩
    rw [e1, ← he]
    have := hT (.inr trivial) r b
    simp only [prodA, Int.mul_one] at this
    exact this
  refine ⟨sumI_lt hi (fun j hj => ?_) ?_, fun hr1 => sumI_lt hi (fun j hj => ?_) ?_⟩
  · unfold visJ
    by_cases hk : k ∈ lps l m j
    · obtain ⟨rest, T, hp, hT⟩ := hkey j hk
      have := (hin j).1 hk
      rw [(hT _ _).1, (hT _ _).1]
      refine Int.mul_le_mul_of_nonneg_right ?_ (by omega)
      rw [if_pos (by omega)]
      split <;> omega
    · rw [vis_out rs _ k _ _ _ hk, vis_out rs _ k _ _ _ hk]
      refine vis_mono (lps_arg hF j) ?_
      have : ¬ (k + 1 ≤ j ∧ j ≤ i) := fun h => hk ((hin j).2 h)
      split <;> split <;> omega
  · unfold visJ
    obtain ⟨T, hT⟩ := hkey2
    rw [(hT _ _).1, (hT _ _).1, if_pos (by omega), if_pos (Nat.le_refl _)]
    omega
  · subst hr1
    unfold visJ
    by_cases hk : k ∈ lps l m j
    · obtain ⟨rest, T, hp, hT⟩ := hkey j hk
      have := (hin j).1 hk
      rw [(hT 1 _).2, (hT 1 _).1, ← Int.mul_assoc]
      refine Int.mul_le_mul_of_nonneg_right ?_ (by omega)
      rw [if_neg (by omega), Int.zero_add]
      split <;> omega
    · rw [vis_out rs _ k _ _ _ hk]
      refine vis_mono (lps_arg hF j) ?_
      split <;> split <;> omega
  · subst hr1
    unfold visJ
    obtain ⟨T, hT⟩ := hkey2
    rw [(hT 1 _).2, (hT 1 _).1, if_neg (by omega), if_pos (Nat.le_refl _), Int.zero_add]
    omega
end Go.Proofs.Dk

/- Plain: what a step does, operation by operation. -/
namespace Go.Proofs.Dk
open Go
set_option maxRecDepth 100000
set_option linter.unusedVariables false
set_option linter.unusedSimpArgs false
theorem stp1 (n : Nat) {v1 : List Ins} {v2 : List Int} {v3 : List Int} {v5 : Int} {v6 : List Int} {v7 : List Int} {v8 : List Int} {v9 : List Int} {v10 : Int} {v11 : List Int} {v12 : Int} {v13 : Int} {v14 : Int} {v15 : List (List Int)} {A B : Int} (h0 : decide ((v1.length : Int) > 0) = true) (hi : (decide (0 ≤ v5) && decide (v5 < (v1.length : Int))) = true) (hx : v1.getD v5.toNat ((0 : Int), ((0 : Int), (0 : Int))) = (1, A, B)) : vm_Machine_Step.f n v1 v2 v3 true v5 v6 v7 v8 v9 v10 v11 v12 v13 v14 v15 = ((if (decide ((v6.length + 1) * 8 ≤ 140737488355328) && decide (1 ≤ 8)) then (some ((0, 0), 0, v1, v2, v3, true, (IntKind.wrap .i64 (v5 + 1)), (v6 ++ [A]), v7, v8, v9, v10, v11, v12, v13, (IntKind.wrap .i64 (v14 + 1)), v15)) else none)) := by
  unfold vm_Machine_Step.f
  rw [h0, if_neg (by decide), if_neg (by decide), if_pos hi, hx]
  kernel_rfl
theorem stp2 (n : Nat) {v1 : List Ins} {v2 : List Int} {v3 : List Int} {v5 : Int} {v6 : List Int} {v7 : List Int} {v8 : List Int} {v9 : List Int} {v10 : Int} {v11 : List Int} {v12 : Int} {v13 : Int} {v14 : Int} {v15 : List (List Int)} {A B : Int} (h0 : decide ((v1.length : Int) > 0) = true) (hi : (decide (0 ≤ v5) && decide (v5 < (v1.length : Int))) = true) (hx : v1.getD v5.toNat ((0 : Int), ((0 : Int), (0 : Int))) = (2, A, B)) : vm_Machine_Step.f n v1 v2 v3 true v5 v6 v7 v8 v9 v10 v11 v12 v13 v14 v15 = (((vm_Machine_pop.f n v1 v2 v3 true v5 v6 v7 v8 v9 v10 v11 v12 v13 v14).bind fun y35 => (some ((0, 0), 0, y35.2.1, y35.2.2.1, y35.2.2.2.1, y35.2.2.2.2.1, (IntKind.wrap .i64 (v5 + 1)), y35.2.2.2.2.2.2.1, y35.2.2.2.2.2.2.2.1, y35.2.2.2.2.2.2.2.2.1, y35.2.2.2.2.2.2.2.2.2.1, y35.2.2.2.2.2.2.2.2.2.2.1, y35.2.2.2.2.2.2.2.2.2.2.2.1, y35.2.2.2.2.2.2.2.2.2.2.2.2.1, y35.2.2.2.2.2.2.2.2.2.2.2.2.2.1, (IntKind.wrap .i64 (y35.2.2.2.2.2.2.2.2.2.2.2.2.2.2 + 1)), v15)))) := by
  unfold vm_Machine_Step.f
  rw [h0, if_neg (by decide), if_neg (by decide), if_pos hi, hx]
  kernel_rfl
theorem stp3 (n : Nat) {v1 : List Ins} {v2 : List Int} {v3 : List Int} {v5 : Int} {v6 : List Int} {v7 : List Int} {v8 : List Int} {v9 : List Int} {v10 : Int} {v11 : List Int} {v12 : Int} {v13 : Int} {v14 : Int} {v15 : List (List Int)} {A B : Int} (h0 : decide ((v1.length : Int) > 0) = true) (hi : (decide (0 ≤ v5) && decide (v5 < (v1.length : Int))) = true) (hx : v1.getD v5.toNat ((0 : Int), ((0 : Int), (0 : Int))) = (3, A, B)) : vm_Machine_Step.f n v1 v2 v3 true v5 v6 v7 v8 v9 v10 v11 v12 v13 v14 v15 = ((if (decide (0 ≤ (IntKind.wrap .i64 ((v6.length : Int) - 1))) && decide ((IntKind.wrap .i64 ((v6.length : Int) - 1)) < (v6.length : Int))) then (if (decide ((v6.length + 1) * 8 ≤ 140737488355328) && decide (1 ≤ 8)) then (some ((0, 0), 0, v1, v2, v3, true, (IntKind.wrap .i64 (v5 + 1)), (v6 ++ [(v6.getD ((IntKind.wrap .i64 ((v6.length : Int) - 1))).toNat (0 : Int))]), v7, v8, v9, v10, v11, v12, v13, (IntKind.wrap .i64 (v14 + 1)), v15)) else none) else none)) := by
  unfold vm_Machine_Step.f
  rw [h0, if_neg (by decide), if_neg (by decide), if_pos hi, hx]
  kernel_rfl
theorem stp4 (n : Nat) {v1 : List Ins} {v2 : List Int} {v3 : List Int} {v5 : Int} {v6 : List Int} {v7 : List Int} {v8 : List Int} {v9 : List Int} {v10 : Int} {v11 : List Int} {v12 : Int} {v13 : Int} {v14 : Int} {v15 : List (List Int)} {A B : Int} (h0 : decide ((v1.length : Int) > 0) = true) (hi : (decide (0 ≤ v5) && decide (v5 < (v1.length : Int))) = true) (hx : v1.getD v5.toNat ((0 : Int), ((0 : Int), (0 : Int))) = (4, A, B)) : vm_Machine_Step.f n v1 v2 v3 true v5 v6 v7 v8 v9 v10 v11 v12 v13 v14 v15 = (((vm_Machine_pop.f n v1 v2 v3 true v5 v6 v7 v8 v9 v10 v11 v12 v13 v14).bind fun y33 => ((vm_Machine_pop.f n y33.2.1 y33.2.2.1 y33.2.2.2.1 y33.2.2.2.2.1 y33.2.2.2.2.2.1 y33.2.2.2.2.2.2.1 y33.2.2.2.2.2.2.2.1 y33.2.2.2.2.2.2.2.2.1 y33.2.2.2.2.2.2.2.2.2.1 y33.2.2.2.2.2.2.2.2.2.2.1 y33.2.2.2.2.2.2.2.2.2.2.2.1 y33.2.2.2.2.2.2.2.2.2.2.2.2.1 y33.2.2.2.2.2.2.2.2.2.2.2.2.2.1 y33.2.2.2.2.2.2.2.2.2.2.2.2.2.2).bind fun y34 => (if (decide ((y34.2.2.2.2.2.2.1.length + 1) * 8 ≤ 140737488355328) && decide (1 ≤ 8)) then (if (decide (((y34.2.2.2.2.2.2.1 ++ [y33.1]).length + 1) * 8 ≤ 140737488355328) && decide (1 ≤ 8)) then (some ((0, 0), 0, y34.2.1, y34.2.2.1, y34.2.2.2.1, y34.2.2.2.2.1, (IntKind.wrap .i64 (v5 + 1)), ((y34.2.2.2.2.2.2.1 ++ [y33.1]) ++ [y34.1]), y34.2.2.2.2.2.2.2.1, y34.2.2.2.2.2.2.2.2.1, y34.2.2.2.2.2.2.2.2.2.1, y34.2.2.2.2.2.2.2.2.2.2.1, y34.2.2.2.2.2.2.2.2.2.2.2.1, y34.2.2.2.2.2.2.2.2.2.2.2.2.1, y34.2.2.2.2.2.2.2.2.2.2.2.2.2.1, (IntKind.wrap .i64 (y34.2.2.2.2.2.2.2.2.2.2.2.2.2.2 + 1)), v15)) else none) else none)))) := by
  unfold vm_Machine_Step.f
  rw [h0, if_neg (by decide), if_neg (by decide), if_pos hi, hx]
  kernel_rfl
theorem stp5 (n : Nat) {v1 : List Ins} {v2 : List Int} {v3 : List Int} {v5 : Int} {v6 : List Int} {v7 : List Int} {v8 : List Int} {v9 : List Int} {v10 : Int} {v11 : List Int} {v12 : Int} {v13 : Int} {v14 : Int} {v15 : List (List Int)} {A B : Int} (h0 : decide ((v1.length : Int) > 0) = true) (hi : (decide (0 ≤ v5) && decide (v5 < (v1.length : Int))) = true) (hx : v1.getD v5.toNat ((0 : Int), ((0 : Int), (0 : Int))) = (5, A, B)) : vm_Machine_Step.f n v1 v2 v3 true v5 v6 v7 v8 v9 v10 v11 v12 v13 v14 v15 = (((vm_Machine_pop.f n v1 v2 v3 true v5 v6 v7 v8 v9 v10 v11 v12 v13 v14).bind fun y29 => ((vm_Machine_pop.f n y29.2.1 y29.2.2.1 y29.2.2.2.1 y29.2.2.2.2.1 y29.2.2.2.2.2.1 y29.2.2.2.2.2.2.1 y29.2.2.2.2.2.2.2.1 y29.2.2.2.2.2.2.2.2.1 y29.2.2.2.2.2.2.2.2.2.1 y29.2.2.2.2.2.2.2.2.2.2.1 y29.2.2.2.2.2.2.2.2.2.2.2.1 y29.2.2.2.2.2.2.2.2.2.2.2.2.1 y29.2.2.2.2.2.2.2.2.2.2.2.2.2.1 y29.2.2.2.2.2.2.2.2.2.2.2.2.2.2).bind fun y30 => ((num_Two.f n (A) y30.1 y29.1).bind fun y31 => ((num_Bool.f n y31.2).bind fun y32 => (if (decide ((y30.2.2.2.2.2.2.1.length + 1) * 8 ≤ 140737488355328) && decide (1 ≤ 8)) then (some ((0, 0), 0, y30.2.1, y30.2.2.1, y30.2.2.2.1, y30.2.2.2.2.1, (IntKind.wrap .i64 (v5 + 1)), (y30.2.2.2.2.2.2.1 ++ [y31.1]), y30.2.2.2.2.2.2.2.1, y30.2.2.2.2.2.2.2.2.1, y30.2.2.2.2.2.2.2.2.2.1, y30.2.2.2.2.2.2.2.2.2.2.1, y30.2.2.2.2.2.2.2.2.2.2.2.1, y30.2.2.2.2.2.2.2.2.2.2.2.2.1, (IntKind.wrap .i64 (y30.2.2.2.2.2.2.2.2.2.2.2.2.2.1 + y32)), (IntKind.wrap .i64 (y30.2.2.2.2.2.2.2.2.2.2.2.2.2.2 + 1)), v15)) else none)))))) := by
  unfold vm_Machine_Step.f
  rw [h0, if_neg (by decide), if_neg (by decide), if_pos hi, hx]
  kernel_rfl
theorem stp6 (n : Nat) {v1 : List Ins} {v2 : List Int} {v3 : List Int} {v5 : Int} {v6 : List Int} {v7 : List Int} {v8 : List Int} {v9 : List Int} {v10 : Int} {v11 : List Int} {v12 : Int} {v13 : Int} {v14 : Int} {v15 : List (List Int)} {A B : Int} (h0 : decide ((v1.length : Int) > 0) = true) (hi : (decide (0 ≤ v5) && decide (v5 < (v1.length : Int))) = true) (hx : v1.getD v5.toNat ((0 : Int), ((0 : Int), (0 : Int))) = (6, A, B)) : vm_Machine_Step.f n v1 v2 v3 true v5 v6 v7 v8 v9 v10 v11 v12 v13 v14 v15 = (((vm_Machine_pop.f n v1 v2 v3 true v5 v6 v7 v8 v9 v10 v11 v12 v13 v14).bind fun y27 => ((num_Neg.f n y27.1).bind fun y28 => (if (decide ((y27.2.2.2.2.2.2.1.length + 1) * 8 ≤ 140737488355328) && decide (1 ≤ 8)) then (some ((0, 0), 0, y27.2.1, y27.2.2.1, y27.2.2.2.1, y27.2.2.2.2.1, (IntKind.wrap .i64 (v5 + 1)), (y27.2.2.2.2.2.2.1 ++ [y28]), y27.2.2.2.2.2.2.2.1, y27.2.2.2.2.2.2.2.2.1, y27.2.2.2.2.2.2.2.2.2.1, y27.2.2.2.2.2.2.2.2.2.2.1, y27.2.2.2.2.2.2.2.2.2.2.2.1, y27.2.2.2.2.2.2.2.2.2.2.2.2.1, y27.2.2.2.2.2.2.2.2.2.2.2.2.2.1, (IntKind.wrap .i64 (y27.2.2.2.2.2.2.2.2.2.2.2.2.2.2 + 1)), v15)) else none)))) := by
  unfold vm_Machine_Step.f
  rw [h0, if_neg (by decide), if_neg (by decide), if_pos hi, hx]
  kernel_rfl
theorem stp7 (n : Nat) {v1 : List Ins} {v2 : List Int} {v3 : List Int} {v5 : Int} {v6 : List Int} {v7 : List Int} {v8 : List Int} {v9 : List Int} {v10 : Int} {v11 : List Int} {v12 : Int} {v13 : Int} {v14 : Int} {v15 : List (List Int)} {A B : Int} (h0 : decide ((v1.length : Int) > 0) = true) (hi : (decide (0 ≤ v5) && decide (v5 < (v1.length : Int))) = true) (hx : v1.getD v5.toNat ((0 : Int), ((0 : Int), (0 : Int))) = (7, A, B)) : vm_Machine_Step.f n v1 v2 v3 true v5 v6 v7 v8 v9 v10 v11 v12 v13 v14 v15 = (((vm_Machine_pop.f n v1 v2 v3 true v5 v6 v7 v8 v9 v10 v11 v12 v13 v14).bind fun y25 => ((num_Not.f n y25.1).bind fun y26 => (if (decide ((y25.2.2.2.2.2.2.1.length + 1) * 8 ≤ 140737488355328) && decide (1 ≤ 8)) then (some ((0, 0), 0, y25.2.1, y25.2.2.1, y25.2.2.2.1, y25.2.2.2.2.1, (IntKind.wrap .i64 (v5 + 1)), (y25.2.2.2.2.2.2.1 ++ [y26]), y25.2.2.2.2.2.2.2.1, y25.2.2.2.2.2.2.2.2.1, y25.2.2.2.2.2.2.2.2.2.1, y25.2.2.2.2.2.2.2.2.2.2.1, y25.2.2.2.2.2.2.2.2.2.2.2.1, y25.2.2.2.2.2.2.2.2.2.2.2.2.1, y25.2.2.2.2.2.2.2.2.2.2.2.2.2.1, (IntKind.wrap .i64 (y25.2.2.2.2.2.2.2.2.2.2.2.2.2.2 + 1)), v15)) else none)))) := by
  unfold vm_Machine_Step.f
  rw [h0, if_neg (by decide), if_neg (by decide), if_pos hi, hx]
  kernel_rfl
theorem stp8 (n : Nat) {v1 : List Ins} {v2 : List Int} {v3 : List Int} {v5 : Int} {v6 : List Int} {v7 : List Int} {v8 : List Int} {v9 : List Int} {v10 : Int} {v11 : List Int} {v12 : Int} {v13 : Int} {v14 : Int} {v15 : List (List Int)} {A B : Int} (h0 : decide ((v1.length : Int) > 0) = true) (hi : (decide (0 ≤ v5) && decide (v5 < (v1.length : Int))) = true) (hx : v1.getD v5.toNat ((0 : Int), ((0 : Int), (0 : Int))) = (8, A, B)) : vm_Machine_Step.f n v1 v2 v3 true v5 v6 v7 v8 v9 v10 v11 v12 v13 v14 v15 = (((vm_Machine_pop.f n v1 v2 v3 true v5 v6 v7 v8 v9 v10 v11 v12 v13 v14).bind fun y23 => ((vm_Machine_pop.f n y23.2.1 y23.2.2.1 y23.2.2.2.1 y23.2.2.2.2.1 y23.2.2.2.2.2.1 y23.2.2.2.2.2.2.1 y23.2.2.2.2.2.2.2.1 y23.2.2.2.2.2.2.2.2.1 y23.2.2.2.2.2.2.2.2.2.1 y23.2.2.2.2.2.2.2.2.2.2.1 y23.2.2.2.2.2.2.2.2.2.2.2.1 y23.2.2.2.2.2.2.2.2.2.2.2.2.1 y23.2.2.2.2.2.2.2.2.2.2.2.2.2.1 y23.2.2.2.2.2.2.2.2.2.2.2.2.2.2).bind fun y24 => (if (decide ((y24.2.2.2.2.2.2.1.length + 1) * 8 ≤ 140737488355328) && decide (1 ≤ 8)) then (some ((0, 0), 0, y24.2.1, y24.2.2.1, y24.2.2.2.1, y24.2.2.2.2.1, (IntKind.wrap .i64 (v5 + 1)), (y24.2.2.2.2.2.2.1 ++ [(bits .and .i64 y23.1 y24.1)]), y24.2.2.2.2.2.2.2.1, y24.2.2.2.2.2.2.2.2.1, y24.2.2.2.2.2.2.2.2.2.1, y24.2.2.2.2.2.2.2.2.2.2.1, y24.2.2.2.2.2.2.2.2.2.2.2.1, y24.2.2.2.2.2.2.2.2.2.2.2.2.1, y24.2.2.2.2.2.2.2.2.2.2.2.2.2.1, (IntKind.wrap .i64 (y24.2.2.2.2.2.2.2.2.2.2.2.2.2.2 + 1)), v15)) else none)))) := by
  unfold vm_Machine_Step.f
  rw [h0, if_neg (by decide), if_neg (by decide), if_pos hi, hx]
  kernel_rfl
theorem stp9 (n : Nat) {v1 : List Ins} {v2 : List Int} {v3 : List Int} {v5 : Int} {v6 : List Int} {v7 : List Int} {v8 : List Int} {v9 : List Int} {v10 : Int} {v11 : List Int} {v12 : Int} {v13 : Int} {v14 : Int} {v15 : List (List Int)} {A B : Int} (h0 : decide ((v1.length : Int) > 0) = true) (hi : (decide (0 ≤ v5) && decide (v5 < (v1.length : Int))) = true) (hx : v1.getD v5.toNat ((0 : Int), ((0 : Int), (0 : Int))) = (9, A, B)) : vm_Machine_Step.f n v1 v2 v3 true v5 v6 v7 v8 v9 v10 v11 v12 v13 v14 v15 = (((vm_Machine_pop.f n v1 v2 v3 true v5 v6 v7 v8 v9 v10 v11 v12 v13 v14).bind fun y21 => ((vm_Machine_pop.f n y21.2.1 y21.2.2.1 y21.2.2.2.1 y21.2.2.2.2.1 y21.2.2.2.2.2.1 y21.2.2.2.2.2.2.1 y21.2.2.2.2.2.2.2.1 y21.2.2.2.2.2.2.2.2.1 y21.2.2.2.2.2.2.2.2.2.1 y21.2.2.2.2.2.2.2.2.2.2.1 y21.2.2.2.2.2.2.2.2.2.2.2.1 y21.2.2.2.2.2.2.2.2.2.2.2.2.1 y21.2.2.2.2.2.2.2.2.2.2.2.2.2.1 y21.2.2.2.2.2.2.2.2.2.2.2.2.2.2).bind fun y22 => (if (decide ((y22.2.2.2.2.2.2.1.length + 1) * 8 ≤ 140737488355328) && decide (1 ≤ 8)) then (some ((0, 0), 0, y22.2.1, y22.2.2.1, y22.2.2.2.1, y22.2.2.2.2.1, (IntKind.wrap .i64 (v5 + 1)), (y22.2.2.2.2.2.2.1 ++ [(bits .or .i64 y21.1 y22.1)]), y22.2.2.2.2.2.2.2.1, y22.2.2.2.2.2.2.2.2.1, y22.2.2.2.2.2.2.2.2.2.1, y22.2.2.2.2.2.2.2.2.2.2.1, y22.2.2.2.2.2.2.2.2.2.2.2.1, y22.2.2.2.2.2.2.2.2.2.2.2.2.1, y22.2.2.2.2.2.2.2.2.2.2.2.2.2.1, (IntKind.wrap .i64 (y22.2.2.2.2.2.2.2.2.2.2.2.2.2.2 + 1)), v15)) else none)))) := by
  unfold vm_Machine_Step.f
  rw [h0, if_neg (by decide), if_neg (by decide), if_pos hi, hx]
  kernel_rfl
theorem stp10 (n : Nat) {v1 : List Ins} {v2 : List Int} {v3 : List Int} {v5 : Int} {v6 : List Int} {v7 : List Int} {v8 : List Int} {v9 : List Int} {v10 : Int} {v11 : List Int} {v12 : Int} {v13 : Int} {v14 : Int} {v15 : List (List Int)} {A B : Int} (h0 : decide ((v1.length : Int) > 0) = true) (hi : (decide (0 ≤ v5) && decide (v5 < (v1.length : Int))) = true) (hx : v1.getD v5.toNat ((0 : Int), ((0 : Int), (0 : Int))) = (10, A, B)) : vm_Machine_Step.f n v1 v2 v3 true v5 v6 v7 v8 v9 v10 v11 v12 v13 v14 v15 = ((some ((0, 0), 0, v1, v2, v3, true, (IntKind.wrap .i64 (v5 + 1)), v6, v7, v8, v9, v10, v11, v12, v13, (IntKind.wrap .i64 (v14 + 1)), v15))) := by
  unfold vm_Machine_Step.f
  rw [h0, if_neg (by decide), if_neg (by decide), if_pos hi, hx]
  kernel_rfl
theorem stp11 (n : Nat) {v1 : List Ins} {v2 : List Int} {v3 : List Int} {v5 : Int} {v6 : List Int} {v7 : List Int} {v8 : List Int} {v9 : List Int} {v10 : Int} {v11 : List Int} {v12 : Int} {v13 : Int} {v14 : Int} {v15 : List (List Int)} {A B : Int} (h0 : decide ((v1.length : Int) > 0) = true) (hi : (decide (0 ≤ v5) && decide (v5 < (v1.length : Int))) = true) (hx : v1.getD v5.toNat ((0 : Int), ((0 : Int), (0 : Int))) = (11, A, B)) : vm_Machine_Step.f n v1 v2 v3 true v5 v6 v7 v8 v9 v10 v11 v12 v13 v14 v15 = ((if (decide (0 ≤ A) && decide (A < 8)) then (if (decide ((v6.length + 1) * 8 ≤ 140737488355328) && decide (1 ≤ 8)) then (some ((0, 0), 0, v1, v2, v3, true, (IntKind.wrap .i64 (v5 + 1)), (v6 ++ [(v7.getD (A).toNat (0 : Int))]), v7, v8, v9, v10, v11, v12, v13, (IntKind.wrap .i64 (v14 + 1)), v15)) else none) else none)) := by
  unfold vm_Machine_Step.f
  rw [h0, if_neg (by decide), if_neg (by decide), if_pos hi, hx]
  kernel_rfl
theorem stp12 (n : Nat) {v1 : List Ins} {v2 : List Int} {v3 : List Int} {v5 : Int} {v6 : List Int} {v7 : List Int} {v8 : List Int} {v9 : List Int} {v10 : Int} {v11 : List Int} {v12 : Int} {v13 : Int} {v14 : Int} {v15 : List (List Int)} {A B : Int} (h0 : decide ((v1.length : Int) > 0) = true) (hi : (decide (0 ≤ v5) && decide (v5 < (v1.length : Int))) = true) (hx : v1.getD v5.toNat ((0 : Int), ((0 : Int), (0 : Int))) = (12, A, B)) : vm_Machine_Step.f n v1 v2 v3 true v5 v6 v7 v8 v9 v10 v11 v12 v13 v14 v15 = (((vm_Machine_pop.f n v1 v2 v3 true v5 v6 v7 v8 v9 v10 v11 v12 v13 v14).bind fun y20 => (if (decide (0 ≤ A) && decide (A < 8)) then (some ((0, 0), 0, y20.2.1, y20.2.2.1, y20.2.2.2.1, y20.2.2.2.2.1, (IntKind.wrap .i64 (v5 + 1)), y20.2.2.2.2.2.2.1, (y20.2.2.2.2.2.2.2.1.set (A).toNat y20.1), y20.2.2.2.2.2.2.2.2.1, y20.2.2.2.2.2.2.2.2.2.1, y20.2.2.2.2.2.2.2.2.2.2.1, y20.2.2.2.2.2.2.2.2.2.2.2.1, y20.2.2.2.2.2.2.2.2.2.2.2.2.1, y20.2.2.2.2.2.2.2.2.2.2.2.2.2.1, (IntKind.wrap .i64 (y20.2.2.2.2.2.2.2.2.2.2.2.2.2.2 + 1)), v15)) else none))) := by
  unfold vm_Machine_Step.f
  rw [h0, if_neg (by decide), if_neg (by decide), if_pos hi, hx]
  kernel_rfl
theorem stp13 (n : Nat) {v1 : List Ins} {v2 : List Int} {v3 : List Int} {v5 : Int} {v6 : List Int} {v7 : List Int} {v8 : List Int} {v9 : List Int} {v10 : Int} {v11 : List Int} {v12 : Int} {v13 : Int} {v14 : Int} {v15 : List (List Int)} {A B : Int} (h0 : decide ((v1.length : Int) > 0) = true) (hi : (decide (0 ≤ v5) && decide (v5 < (v1.length : Int))) = true) (hx : v1.getD v5.toNat ((0 : Int), ((0 : Int), (0 : Int))) = (13, A, B)) : vm_Machine_Step.f n v1 v2 v3 true v5 v6 v7 v8 v9 v10 v11 v12 v13 v14 v15 = ((if (decide (0 ≤ A) && decide (A < 8)) then (if (decide ((v6.length + 1) * 8 ≤ 140737488355328) && decide (1 ≤ 8)) then (some ((0, 0), 0, v1, v2, v3, true, (IntKind.wrap .i64 (v5 + 1)), (v6 ++ [(v3.getD (A).toNat (0 : Int))]), v7, v8, v9, v10, v11, v12, v13, (IntKind.wrap .i64 (v14 + 1)), v15)) else none) else none)) := by
  unfold vm_Machine_Step.f
  rw [h0, if_neg (by decide), if_neg (by decide), if_pos hi, hx]
  kernel_rfl
theorem stp14 (n : Nat) {v1 : List Ins} {v2 : List Int} {v3 : List Int} {v5 : Int} {v6 : List Int} {v7 : List Int} {v8 : List Int} {v9 : List Int} {v10 : Int} {v11 : List Int} {v12 : Int} {v13 : Int} {v14 : Int} {v15 : List (List Int)} {A B : Int} (h0 : decide ((v1.length : Int) > 0) = true) (hi : (decide (0 ≤ v5) && decide (v5 < (v1.length : Int))) = true) (hx : v1.getD v5.toNat ((0 : Int), ((0 : Int), (0 : Int))) = (14, A, B)) : vm_Machine_Step.f n v1 v2 v3 true v5 v6 v7 v8 v9 v10 v11 v12 v13 v14 v15 = (((vm_Machine_pop.f n v1 v2 v3 true v5 v6 v7 v8 v9 v10 v11 v12 v13 v14).bind fun y19 => (if (decide (0 ≤ A) && decide (A < 8)) then (some ((0, 0), 0, y19.2.1, y19.2.2.1, (y19.2.2.2.1.set (A).toNat y19.1), y19.2.2.2.2.1, (IntKind.wrap .i64 (v5 + 1)), y19.2.2.2.2.2.2.1, y19.2.2.2.2.2.2.2.1, y19.2.2.2.2.2.2.2.2.1, y19.2.2.2.2.2.2.2.2.2.1, y19.2.2.2.2.2.2.2.2.2.2.1, y19.2.2.2.2.2.2.2.2.2.2.2.1, y19.2.2.2.2.2.2.2.2.2.2.2.2.1, y19.2.2.2.2.2.2.2.2.2.2.2.2.2.1, (IntKind.wrap .i64 (y19.2.2.2.2.2.2.2.2.2.2.2.2.2.2 + 1)), v15)) else none))) := by
  unfold vm_Machine_Step.f
  rw [h0, if_neg (by decide), if_neg (by decide), if_pos hi, hx]
  kernel_rfl
theorem stp15 (n : Nat) {v1 : List Ins} {v2 : List Int} {v3 : List Int} {v5 : Int} {v6 : List Int} {v7 : List Int} {v8 : List Int} {v9 : List Int} {v10 : Int} {v11 : List Int} {v12 : Int} {v13 : Int} {v14 : Int} {v15 : List (List Int)} {A B : Int} (h0 : decide ((v1.length : Int) > 0) = true) (hi : (decide (0 ≤ v5) && decide (v5 < (v1.length : Int))) = true) (hx : v1.getD v5.toNat ((0 : Int), ((0 : Int), (0 : Int))) = (15, A, B)) : vm_Machine_Step.f n v1 v2 v3 true v5 v6 v7 v8 v9 v10 v11 v12 v13 v14 v15 = ((if (decide (0 ≤ A) && decide (A < 16)) then (if (decide ((v6.length + 1) * 8 ≤ 140737488355328) && decide (1 ≤ 8)) then (some ((0, 0), 0, v1, v2, v3, true, (IntKind.wrap .i64 (v5 + 1)), (v6 ++ [(v8.getD (A).toNat (0 : Int))]), v7, v8, v9, v10, v11, v12, v13, (IntKind.wrap .i64 (v14 + 1)), v15)) else none) else none)) := by
  unfold vm_Machine_Step.f
  rw [h0, if_neg (by decide), if_neg (by decide), if_pos hi, hx]
  kernel_rfl
theorem stp16 (n : Nat) {v1 : List Ins} {v2 : List Int} {v3 : List Int} {v5 : Int} {v6 : List Int} {v7 : List Int} {v8 : List Int} {v9 : List Int} {v10 : Int} {v11 : List Int} {v12 : Int} {v13 : Int} {v14 : Int} {v15 : List (List Int)} {A B : Int} (h0 : decide ((v1.length : Int) > 0) = true) (hi : (decide (0 ≤ v5) && decide (v5 < (v1.length : Int))) = true) (hx : v1.getD v5.toNat ((0 : Int), ((0 : Int), (0 : Int))) = (16, A, B)) : vm_Machine_Step.f n v1 v2 v3 true v5 v6 v7 v8 v9 v10 v11 v12 v13 v14 v15 = (((vm_Machine_pop.f n v1 v2 v3 true v5 v6 v7 v8 v9 v10 v11 v12 v13 v14).bind fun y18 => (if (decide (0 ≤ A) && decide (A < 16)) then (if decide (A < 0) then none else (some ((0, 0), 0, y18.2.1, y18.2.2.1, y18.2.2.2.1, y18.2.2.2.2.1, (IntKind.wrap .i64 (v5 + 1)), y18.2.2.2.2.2.2.1, y18.2.2.2.2.2.2.2.1, y18.2.2.2.2.2.2.2.2.1, (y18.2.2.2.2.2.2.2.2.2.1.set (A).toNat y18.1), (bits .or .i64 y18.2.2.2.2.2.2.2.2.2.2.1 (IntKind.wrap .i64 (1 * 2 ^ (min (A).toNat 64)))), y18.2.2.2.2.2.2.2.2.2.2.2.1, y18.2.2.2.2.2.2.2.2.2.2.2.2.1, y18.2.2.2.2.2.2.2.2.2.2.2.2.2.1, (IntKind.wrap .i64 (y18.2.2.2.2.2.2.2.2.2.2.2.2.2.2 + 1)), v15))) else none))) := by
  unfold vm_Machine_Step.f
  rw [h0, if_neg (by decide), if_neg (by decide), if_pos hi, hx]
  kernel_rfl
theorem stp17 (n : Nat) {v1 : List Ins} {v2 : List Int} {v3 : List Int} {v5 : Int} {v6 : List Int} {v7 : List Int} {v8 : List Int} {v9 : List Int} {v10 : Int} {v11 : List Int} {v12 : Int} {v13 : Int} {v14 : Int} {v15 : List (List Int)} {A B : Int} (h0 : decide ((v1.length : Int) > 0) = true) (hi : (decide (0 ≤ v5) && decide (v5 < (v1.length : Int))) = true) (hx : v1.getD v5.toNat ((0 : Int), ((0 : Int), (0 : Int))) = (17, A, B)) : vm_Machine_Step.f n v1 v2 v3 true v5 v6 v7 v8 v9 v10 v11 v12 v13 v14 v15 = ((if (decide (0 ≤ A) && decide (A < 8)) then (if (decide (0 ≤ B) && decide (B < 8)) then (if (decide ((v6.length + 1) * 8 ≤ 140737488355328) && decide (1 ≤ 8)) then (some ((0, 0), 0, v1, v2, v3, true, (IntKind.wrap .i64 (v5 + 1)), (v6 ++ [((v15.getD (A).toNat [(0 : Int), (0 : Int), (0 : Int), (0 : Int), (0 : Int), (0 : Int), (0 : Int), (0 : Int)]).getD (B).toNat (0 : Int))]), v7, v8, v9, v10, v11, v12, v13, (IntKind.wrap .i64 (v14 + 1)), v15)) else none) else none) else none)) := by
  unfold vm_Machine_Step.f
  rw [h0, if_neg (by decide), if_neg (by decide), if_pos hi, hx]
  kernel_rfl
theorem stp18 (n : Nat) {v1 : List Ins} {v2 : List Int} {v3 : List Int} {v5 : Int} {v6 : List Int} {v7 : List Int} {v8 : List Int} {v9 : List Int} {v10 : Int} {v11 : List Int} {v12 : Int} {v13 : Int} {v14 : Int} {v15 : List (List Int)} {A B : Int} (h0 : decide ((v1.length : Int) > 0) = true) (hi : (decide (0 ≤ v5) && decide (v5 < (v1.length : Int))) = true) (hx : v1.getD v5.toNat ((0 : Int), ((0 : Int), (0 : Int))) = (18, A, B)) : vm_Machine_Step.f n v1 v2 v3 true v5 v6 v7 v8 v9 v10 v11 v12 v13 v14 v15 = (((vm_Machine_pop.f n v1 v2 v3 true v5 v6 v7 v8 v9 v10 v11 v12 v13 v14).bind fun y17 => (if (decide (0 ≤ A) && decide (A < 8)) then (if (decide (0 ≤ B) && decide (B < 8)) then (some ((0, 0), 0, y17.2.1, y17.2.2.1, y17.2.2.2.1, y17.2.2.2.2.1, (IntKind.wrap .i64 (v5 + 1)), y17.2.2.2.2.2.2.1, y17.2.2.2.2.2.2.2.1, y17.2.2.2.2.2.2.2.2.1, y17.2.2.2.2.2.2.2.2.2.1, y17.2.2.2.2.2.2.2.2.2.2.1, y17.2.2.2.2.2.2.2.2.2.2.2.1, y17.2.2.2.2.2.2.2.2.2.2.2.2.1, y17.2.2.2.2.2.2.2.2.2.2.2.2.2.1, (IntKind.wrap .i64 (y17.2.2.2.2.2.2.2.2.2.2.2.2.2.2 + 1)), (v15.set (A).toNat ((v15.getD (A).toNat [(0 : Int), (0 : Int), (0 : Int), (0 : Int), (0 : Int), (0 : Int), (0 : Int), (0 : Int)]).set (B).toNat y17.1)))) else none) else none))) := by
  unfold vm_Machine_Step.f
  rw [h0, if_neg (by decide), if_neg (by decide), if_pos hi, hx]
  kernel_rfl
theorem stp19 (n : Nat) {v1 : List Ins} {v2 : List Int} {v3 : List Int} {v5 : Int} {v6 : List Int} {v7 : List Int} {v8 : List Int} {v9 : List Int} {v10 : Int} {v11 : List Int} {v12 : Int} {v13 : Int} {v14 : Int} {v15 : List (List Int)} {A B : Int} (h0 : decide ((v1.length : Int) > 0) = true) (hi : (decide (0 ≤ v5) && decide (v5 < (v1.length : Int))) = true) (hx : v1.getD v5.toNat ((0 : Int), ((0 : Int), (0 : Int))) = (19, A, B)) : vm_Machine_Step.f n v1 v2 v3 true v5 v6 v7 v8 v9 v10 v11 v12 v13 v14 v15 = ((some ((0, 0), 0, v1, v2, v3, true, (IntKind.wrap .i64 ((IntKind.wrap .i64 (v5 + 1)) + A)), v6, v7, v8, v9, v10, v11, v12, v13, (IntKind.wrap .i64 (v14 + 1)), v15))) := by
  unfold vm_Machine_Step.f
  rw [h0, if_neg (by decide), if_neg (by decide), if_pos hi, hx]
  kernel_rfl
theorem stp20 (n : Nat) {v1 : List Ins} {v2 : List Int} {v3 : List Int} {v5 : Int} {v6 : List Int} {v7 : List Int} {v8 : List Int} {v9 : List Int} {v10 : Int} {v11 : List Int} {v12 : Int} {v13 : Int} {v14 : Int} {v15 : List (List Int)} {A B : Int} (h0 : decide ((v1.length : Int) > 0) = true) (hi : (decide (0 ≤ v5) && decide (v5 < (v1.length : Int))) = true) (hx : v1.getD v5.toNat ((0 : Int), ((0 : Int), (0 : Int))) = (20, A, B)) : vm_Machine_Step.f n v1 v2 v3 true v5 v6 v7 v8 v9 v10 v11 v12 v13 v14 v15 = (((vm_Machine_pop.f n v1 v2 v3 true v5 v6 v7 v8 v9 v10 v11 v12 v13 v14).bind fun y16 => (if (y16.1 == 0) then (some ((0, 0), 0, y16.2.1, y16.2.2.1, y16.2.2.2.1, y16.2.2.2.2.1, (IntKind.wrap .i64 ((IntKind.wrap .i64 (v5 + 1)) + A)), y16.2.2.2.2.2.2.1, y16.2.2.2.2.2.2.2.1, y16.2.2.2.2.2.2.2.2.1, y16.2.2.2.2.2.2.2.2.2.1, y16.2.2.2.2.2.2.2.2.2.2.1, y16.2.2.2.2.2.2.2.2.2.2.2.1, y16.2.2.2.2.2.2.2.2.2.2.2.2.1, y16.2.2.2.2.2.2.2.2.2.2.2.2.2.1, (IntKind.wrap .i64 (y16.2.2.2.2.2.2.2.2.2.2.2.2.2.2 + 1)), v15)) else (some ((0, 0), 0, y16.2.1, y16.2.2.1, y16.2.2.2.1, y16.2.2.2.2.1, (IntKind.wrap .i64 (v5 + 1)), y16.2.2.2.2.2.2.1, y16.2.2.2.2.2.2.2.1, y16.2.2.2.2.2.2.2.2.1, y16.2.2.2.2.2.2.2.2.2.1, y16.2.2.2.2.2.2.2.2.2.2.1, y16.2.2.2.2.2.2.2.2.2.2.2.1, y16.2.2.2.2.2.2.2.2.2.2.2.2.1, y16.2.2.2.2.2.2.2.2.2.2.2.2.2.1, (IntKind.wrap .i64 (y16.2.2.2.2.2.2.2.2.2.2.2.2.2.2 + 1)), v15))))) := by
  unfold vm_Machine_Step.f
  rw [h0, if_neg (by decide), if_neg (by decide), if_pos hi, hx]
  kernel_rfl
theorem stp21 (n : Nat) {v1 : List Ins} {v2 : List Int} {v3 : List Int} {v5 : Int} {v6 : List Int} {v7 : List Int} {v8 : List Int} {v9 : List Int} {v10 : Int} {v11 : List Int} {v12 : Int} {v13 : Int} {v14 : Int} {v15 : List (List Int)} {A B : Int} (h0 : decide ((v1.length : Int) > 0) = true) (hi : (decide (0 ≤ v5) && decide (v5 < (v1.length : Int))) = true) (hx : v1.getD v5.toNat ((0 : Int), ((0 : Int), (0 : Int))) = (21, A, B)) : vm_Machine_Step.f n v1 v2 v3 true v5 v6 v7 v8 v9 v10 v11 v12 v13 v14 v15 = ((if (decide ((v11.length + 1) * 8 ≤ 140737488355328) && decide (1 ≤ 8)) then (some ((0, 0), 0, v1, v2, v3, true, (IntKind.wrap .i64 (v5 + 1)), v6, v7, v8, v9, v10, (v11 ++ [A]), v12, v13, (IntKind.wrap .i64 (v14 + 1)), v15)) else none)) := by
  unfold vm_Machine_Step.f
  rw [h0, if_neg (by decide), if_neg (by decide), if_pos hi, hx]
  kernel_rfl
theorem stp22 (n : Nat) {v1 : List Ins} {v2 : List Int} {v3 : List Int} {v5 : Int} {v6 : List Int} {v7 : List Int} {v8 : List Int} {v9 : List Int} {v10 : Int} {v11 : List Int} {v12 : Int} {v13 : Int} {v14 : Int} {v15 : List (List Int)} {A B : Int} (h0 : decide ((v1.length : Int) > 0) = true) (hi : (decide (0 ≤ v5) && decide (v5 < (v1.length : Int))) = true) (hx : v1.getD v5.toNat ((0 : Int), ((0 : Int), (0 : Int))) = (22, A, B)) : vm_Machine_Step.f n v1 v2 v3 true v5 v6 v7 v8 v9 v10 v11 v12 v13 v14 v15 = ((if (decide (0 ≤ (IntKind.wrap .i64 ((v11.length : Int) - 1))) && decide ((IntKind.wrap .i64 ((v11.length : Int) - 1)) < (v11.length : Int))) then (if (decide (0 ≤ (IntKind.wrap .i64 ((v11.length : Int) - 1))) && decide ((IntKind.wrap .i64 ((v11.length : Int) - 1)) < (v11.length : Int))) then (if (decide (0 ≤ (IntKind.wrap .i64 ((v11.length : Int) - 1))) && decide ((IntKind.wrap .i64 ((v11.length : Int) - 1)) < (((v11.set ((IntKind.wrap .i64 ((v11.length : Int) - 1))).toNat (IntKind.wrap .i64 ((v11.getD ((IntKind.wrap .i64 ((v11.length : Int) - 1))).toNat (0 : Int)) - 1))).length : Nat) : Int))) then (if (decide (((v11.set ((IntKind.wrap .i64 ((v11.length : Int) - 1))).toNat (IntKind.wrap .i64 ((v11.getD ((IntKind.wrap .i64 ((v11.length : Int) - 1))).toNat (0 : Int)) - 1))).getD ((IntKind.wrap .i64 ((v11.length : Int) - 1))).toNat (0 : Int)) > 0)) then (if (decide (0 ≤ v5) && decide (v5 < (v2.length : Int))) then (some ((0, 0), 0, v1, v2, v3, true, (IntKind.wrap .i64 ((v2.getD v5.toNat (0 : Int)) + 1)), v6, v7, v8, v9, v10, (v11.set ((IntKind.wrap .i64 ((v11.length : Int) - 1))).toNat (IntKind.wrap .i64 ((v11.getD ((IntKind.wrap .i64 ((v11.length : Int) - 1))).toNat (0 : Int)) - 1))), v12, v13, (IntKind.wrap .i64 (v14 + 1)), v15)) else none) else (if (decide (0 ≤ (IntKind.wrap .i64 ((v11.length : Int) - 1))) && decide ((IntKind.wrap .i64 ((v11.length : Int) - 1)) ≤ (((v11.set ((IntKind.wrap .i64 ((v11.length : Int) - 1))).toNat (IntKind.wrap .i64 ((v11.getD ((IntKind.wrap .i64 ((v11.length : Int) - 1))).toNat (0 : Int)) - 1))).length : Nat) : Int))) then (some ((0, 0), 0, v1, v2, v3, true, (IntKind.wrap .i64 (v5 + 1)), v6, v7, v8, v9, v10, ((v11.set ((IntKind.wrap .i64 ((v11.length : Int) - 1))).toNat (IntKind.wrap .i64 ((v11.getD ((IntKind.wrap .i64 ((v11.length : Int) - 1))).toNat (0 : Int)) - 1))).take (((IntKind.wrap .i64 ((v11.length : Int) - 1))).toNat - 0)), v12, v13, (IntKind.wrap .i64 (v14 + 1)), v15)) else none)) else none) else none) else none)) := by
  unfold vm_Machine_Step.f
  rw [h0, if_neg (by decide), if_neg (by decide), if_pos hi, hx]
  kernel_rfl
theorem stp23 (n : Nat) {v1 : List Ins} {v2 : List Int} {v3 : List Int} {v5 : Int} {v6 : List Int} {v7 : List Int} {v8 : List Int} {v9 : List Int} {v10 : Int} {v11 : List Int} {v12 : Int} {v13 : Int} {v14 : Int} {v15 : List (List Int)} {A B : Int} (h0 : decide ((v1.length : Int) > 0) = true) (hi : (decide (0 ≤ v5) && decide (v5 < (v1.length : Int))) = true) (hx : v1.getD v5.toNat ((0 : Int), ((0 : Int), (0 : Int))) = (23, A, B)) : vm_Machine_Step.f n v1 v2 v3 true v5 v6 v7 v8 v9 v10 v11 v12 v13 v14 v15 = ((if decide (A < 0) then none else (some ((1, A), 0, v1, v2, v3, true, (IntKind.wrap .i64 (v5 + 1)), v6, v7, v8, v9, v10, v11, (bits .or .i64 v12 (IntKind.wrap .i64 (1 * 2 ^ (min (A).toNat 64)))), v13, (IntKind.wrap .i64 (v14 + 1)), v15)))) := by
  unfold vm_Machine_Step.f
  rw [h0, if_neg (by decide), if_neg (by decide), if_pos hi, hx]
  kernel_rfl
theorem stp24 (n : Nat) {v1 : List Ins} {v2 : List Int} {v3 : List Int} {v5 : Int} {v6 : List Int} {v7 : List Int} {v8 : List Int} {v9 : List Int} {v10 : Int} {v11 : List Int} {v12 : Int} {v13 : Int} {v14 : Int} {v15 : List (List Int)} {A B : Int} (h0 : decide ((v1.length : Int) > 0) = true) (hi : (decide (0 ≤ v5) && decide (v5 < (v1.length : Int))) = true) (hx : v1.getD v5.toNat ((0 : Int), ((0 : Int), (0 : Int))) = (24, A, B)) : vm_Machine_Step.f n v1 v2 v3 true v5 v6 v7 v8 v9 v10 v11 v12 v13 v14 v15 = ((if decide (A < 0) then none else (some ((2, A), 0, v1, v2, v3, true, (IntKind.wrap .i64 (v5 + 1)), v6, v7, v8, v9, v10, v11, (bits .andNot .i64 v12 (IntKind.wrap .i64 (1 * 2 ^ (min (A).toNat 64)))), v13, (IntKind.wrap .i64 (v14 + 1)), v15)))) := by
  unfold vm_Machine_Step.f
  rw [h0, if_neg (by decide), if_neg (by decide), if_pos hi, hx]
  kernel_rfl
theorem stp25 (n : Nat) {v1 : List Ins} {v2 : List Int} {v3 : List Int} {v5 : Int} {v6 : List Int} {v7 : List Int} {v8 : List Int} {v9 : List Int} {v10 : Int} {v11 : List Int} {v12 : Int} {v13 : Int} {v14 : Int} {v15 : List (List Int)} {A B : Int} (h0 : decide ((v1.length : Int) > 0) = true) (hi : (decide (0 ≤ v5) && decide (v5 < (v1.length : Int))) = true) (hx : v1.getD v5.toNat ((0 : Int), ((0 : Int), (0 : Int))) = (25, A, B)) : vm_Machine_Step.f n v1 v2 v3 true v5 v6 v7 v8 v9 v10 v11 v12 v13 v14 v15 = ((some ((3, 0), 0, v1, v2, v3, false, (IntKind.wrap .i64 (v5 + 1)), v6, v7, v8, v9, v10, v11, v12, v13, (IntKind.wrap .i64 (v14 + 1)), v15))) := by
  unfold vm_Machine_Step.f
  rw [h0, if_neg (by decide), if_neg (by decide), if_pos hi, hx]
  kernel_rfl
end Go.Proofs.Dk

/- Plain: a machine's state, and a step of it. -/
namespace Go.Proofs.Dk
open Go
set_option maxRecDepth 100000
set_option linter.unusedVariables false
set_option linter.unusedSimpArgs false
def pv (v : List Int) : Int := v.getD (v.length - 1) 0
def pr (v : List Int) : List Int := v.take (v.length - 1)
theorem pv_app (r : List Int) (x : Int) : pv (r ++ [x]) = x := by
  unfold pv
  rw [List.length_append, List.getD_eq_getElem?_getD, List.getElem?_append_right (by simp)]
  simp
theorem pr_app (r : List Int) (x : Int) : pr (r ++ [x]) = r := by
  unfold pr
  rw [List.length_append, List.length_singleton, Nat.add_sub_cancel, List.take_left']
  rfl
theorem pv_app2 (r : List Int) (x y : Int) : pv (r ++ [x, y]) = y := by
  rw [show r ++ [x, y] = (r ++ [x]) ++ [y] by simp, pv_app]
theorem pr_app2 (r : List Int) (x y : Int) : pr (r ++ [x, y]) = r ++ [x] := by
  rw [show r ++ [x, y] = (r ++ [x]) ++ [y] by simp, pr_app]
theorem pop_ix {v : List Int} (h : 0 < v.length) (h2 : v.length < 1000) : IntKind.wrap .i64 ((v.length : Int) - 1) = ((v.length - 1 : Nat) : Int) := by
  rw [wrap_id (by omega) (by omega)]
  omega
theorem pop_is (n : Nat) (v1 : List Ins) (v2 v3 : List Int) (v4 : Bool) (v5 : Int) {v6 : List Int} (v7 v8 v9 : List Int) (v10 : Int) (v11 : List Int) (v12 v13 v14 : Int) (h : 0 < v6.length) (h2 : v6.length < 1000) :
    vm_Machine_pop.f n v1 v2 v3 v4 v5 v6 v7 v8 v9 v10 v11 v12 v13 v14 = some (pv v6, v1, v2, v3, v4, v5, pr v6, v7, v8, v9, v10, v11, v12, v13, v14) := by
  unfold vm_Machine_pop.f pv pr
  rw [pop_ix h h2, if_pos (in_ix (by omega)), if_pos (by simp), Int.toNat_natCast, Nat.sub_zero]
noncomputable def twoI (A a b : Int) : Int × Bool := (num_Two.f 0 A a b).getD (0, false)
theorem mask63 (b : Int) : ¬ bits .and .i64 b 63 < 0 := by
  show ¬ IntKind.i64.wrap ((BitVec.ofInt 64 b &&& BitVec.ofInt 64 ((63 : Nat) : Int)).toNat : Int) < 0
  rw [BitVec.toNat_and, ofInt_u64 63 (by omega)]
  have : (BitVec.ofInt 64 b).toNat &&& 63 ≤ 63 := Nat.and_le_right
  rw [wrap_id (by omega) (by omega)]
  omega
theorem two_is (n : Nat) {A : Int} (hA : 1 ≤ A ∧ A ≤ 12) (a b : Int) : num_Two.f n A a b = some (twoI A a b) ∧ (11 ≤ A → (twoI A a b).1 = 0 ∨ (twoI A a b).1 = 1) := by
  have hc : A = 1 ∨ A = 2 ∨ A = 3 ∨ A = 4 ∨ A = 5 ∨ A = 6 ∨ A = 7 ∨ A = 8 ∨ A = 9 ∨ A = 10 ∨ A = 11 ∨ A = 12 := by omega
  have key : ∀ x, num_Two.f n A a b = some x → num_Two.f 0 A a b = some x → num_Two.f n A a b = some (twoI A a b) ∧ twoI A a b = x := fun x h1 h2 => by
    unfold twoI
    rw [h1, h2]
    exact ⟨rfl, rfl⟩
  have hm := mask63 b
  rcases hc with rfl | rfl | rfl | rfl | rfl | rfl | rfl | rfl | rfl | rfl | rfl | rfl
  · exact ⟨(key (IntKind.wrap .i64 (a + b), false) rfl rfl).1, fun h => by omega⟩
  · exact ⟨(key (IntKind.wrap .i64 (a - b), false) rfl rfl).1, fun h => by omega⟩
  · exact ⟨(key (IntKind.wrap .i64 (a * b), false) rfl rfl).1, fun h => by omega⟩
  · have hz : ∀ n, num_Two.f n 4 a b = some (if b = 0 then (0, true) else (IntKind.wrap .i64 (a.tdiv b), false)) := fun n => by
      have : num_Two.f n 4 a b = (if (b == 0) then (some (0, true)) else (if (b == 0) then none else (some ((IntKind.wrap .i64 (a.tdiv b)), false)))) := by kernel_rfl
      rw [this]
      by_cases hb : b = 0
      · rw [if_pos (by simpa using hb), if_pos hb]
      · rw [if_neg (by simpa using hb), if_neg (by simpa using hb), if_neg hb]
    exact ⟨(key _ (hz n) (hz 0)).1, fun h => by omega⟩
  · have hz : ∀ n, num_Two.f n 5 a b = some (if b = 0 then (0, true) else (a.tmod b, false)) := fun n => by
      have : num_Two.f n 5 a b = (if (b == 0) then (some (0, true)) else (if (b == 0) then none else (some ((a.tmod b), false)))) := by kernel_rfl
      rw [this]
      by_cases hb : b = 0
      · rw [if_pos (by simpa using hb), if_pos hb]
      · rw [if_neg (by simpa using hb), if_neg (by simpa using hb), if_neg hb]
    exact ⟨(key _ (hz n) (hz 0)).1, fun h => by omega⟩
  · exact ⟨(key (bits .and .i64 a b, false) rfl rfl).1, fun h => by omega⟩
  · exact ⟨(key (bits .or .i64 a b, false) rfl rfl).1, fun h => by omega⟩
  · exact ⟨(key (bits .xor .i64 a b, false) rfl rfl).1, fun h => by omega⟩
  · have hz : ∀ n, num_Two.f n 9 a b = some (IntKind.wrap .i64 (a * 2 ^ (min ((bits .and .i64 b 63)).toNat 64)), false) := fun n => by
      have : num_Two.f n 9 a b = ((if decide ((bits .and .i64 b 63) < 0) then none else (some (IntKind.wrap .i64 (a * 2 ^ (min ((bits .and .i64 b 63)).toNat 64)))) : Option Int).bind fun y => some (y, false)) := by kernel_rfl
      rw [this, if_neg (by simpa using hm)]
      rfl
    exact ⟨(key _ (hz n) (hz 0)).1, fun h => by omega⟩
  · have hz : ∀ n, num_Two.f n 10 a b = some ((a.fdiv (2 ^ (min ((bits .and .i64 b 63)).toNat 64))), false) := fun n => by
      have : num_Two.f n 10 a b = ((if decide ((bits .and .i64 b 63) < 0) then none else (some (a.fdiv (2 ^ (min ((bits .and .i64 b 63)).toNat 64)))) : Option Int).bind fun y => some (y, false)) := by kernel_rfl
      rw [this, if_neg (by simpa using hm)]
      rfl
    exact ⟨(key _ (hz n) (hz 0)).1, fun h => by omega⟩
  · have hz : ∀ n, num_Two.f n 11 a b = some ((if decide (a < b) = true then 1 else 0), false) := fun n => by
      have : num_Two.f n 11 a b = (((if decide (a < b) then (some 1) else (some 0) : Option Int).bind fun y => some y).bind fun y => some (y, false)) := by kernel_rfl
      rw [this]
      split <;> rfl
    obtain ⟨k1, k2⟩ := key _ (hz n) (hz 0)
    refine ⟨k1, fun _ => ?_⟩
    rw [k2]
    simp only
    split
    · exact .inr rfl
    · exact .inl rfl
  · have hz : ∀ n, num_Two.f n 12 a b = some ((if (a == b) = true then 1 else 0), false) := fun n => by
      have : num_Two.f n 12 a b = (((if (a == b) then (some 1) else (some 0) : Option Int).bind fun y => some y).bind fun y => some (y, false)) := by kernel_rfl
      rw [this]
      split <;> rfl
    obtain ⟨k1, k2⟩ := key _ (hz n) (hz 0)
    refine ⟨k1, fun _ => ?_⟩
    rw [k2]
    simp only
    split
    · exact .inr rfl
    · exact .inl rfl
structure MS where
  ret : List Int
  at_ : Int
  stk : List Int
  loc : List Int
  inp : List Int
  out : List Int
  set : Int
  rds : List Int
  held : Int
  flt : Int
  stp : Int
abbrev MemT := List (List Int)
abbrev z8 : List Int := [(0 : Int), (0 : Int), (0 : Int), (0 : Int), (0 : Int), (0 : Int), (0 : Int), (0 : Int)]
abbrev bit1 (A : Int) : Int := IntKind.wrap .i64 (1 * 2 ^ (min A.toNat 64))
noncomputable def stkM (x : Ins) (s : MS) (mem : MemT) : List Int :=
  if x.1 = 1 then s.stk ++ [x.2.1]
  else if x.1 = 2 ∨ x.1 = 12 ∨ x.1 = 14 ∨ x.1 = 16 ∨ x.1 = 18 ∨ x.1 = 20 then pr s.stk
  else if x.1 = 3 then s.stk ++ [pv s.stk]
  else if x.1 = 4 then (pr (pr s.stk) ++ [pv s.stk]) ++ [pv (pr s.stk)]
  else if x.1 = 5 then pr (pr s.stk) ++ [(twoI x.2.1 (pv (pr s.stk)) (pv s.stk)).1]
  else if x.1 = 6 then pr s.stk ++ [IntKind.wrap .i64 (0 - pv s.stk)]
  else if x.1 = 7 then pr s.stk ++ [if pv s.stk = 0 then 1 else 0]
  else if x.1 = 8 then pr (pr s.stk) ++ [bits .and .i64 (pv s.stk) (pv (pr s.stk))]
  else if x.1 = 9 then pr (pr s.stk) ++ [bits .or .i64 (pv s.stk) (pv (pr s.stk))]
  else if x.1 = 11 then s.stk ++ [s.loc.getD x.2.1.toNat 0]
  else if x.1 = 13 then s.stk ++ [s.ret.getD x.2.1.toNat 0]
  else if x.1 = 15 then s.stk ++ [s.inp.getD x.2.1.toNat 0]
  else if x.1 = 17 then s.stk ++ [(mem.getD x.2.1.toNat z8).getD x.2.2.toNat 0]
  else s.stk
def nextM (x : Ins) (mt : Int) (s : MS) : Int :=
  if x.1 = 19 then s.at_ + 1 + x.2.1
  else if x.1 = 20 then (if pv s.stk = 0 then s.at_ + 1 + x.2.1 else s.at_ + 1)
  else if x.1 = 22 then (if pv s.rds - 1 > 0 then mt + 1 else s.at_ + 1)
  else s.at_ + 1
def rdsM (x : Ins) (s : MS) : List Int :=
  if x.1 = 21 then s.rds ++ [x.2.1]
  else if x.1 = 22 then (if pv s.rds - 1 > 0 then pr s.rds ++ [pv s.rds - 1] else pr s.rds)
  else s.rds
noncomputable def stepM (x : Ins) (mt : Int) (s : MS) (mem : MemT) : MS where
  ret := if x.1 = 14 then s.ret.set x.2.1.toNat (pv s.stk) else s.ret
  at_ := nextM x mt s
  stk := stkM x s mem
  loc := if x.1 = 12 then s.loc.set x.2.1.toNat (pv s.stk) else s.loc
  inp := s.inp
  out := if x.1 = 16 then s.out.set x.2.1.toNat (pv s.stk) else s.out
  set := if x.1 = 16 then bits .or .i64 s.set (bit1 x.2.1) else s.set
  rds := rdsM x s
  held := if x.1 = 23 then bits .or .i64 s.held (bit1 x.2.1) else if x.1 = 24 then bits .andNot .i64 s.held (bit1 x.2.1) else s.held
  flt := if x.1 = 5 then IntKind.wrap .i64 (s.flt + (if (twoI x.2.1 (pv (pr s.stk)) (pv s.stk)).2 = true then 1 else 0)) else s.flt
  stp := IntKind.wrap .i64 (s.stp + 1)
def memM (x : Ins) (s : MS) (mem : MemT) : MemT := if x.1 = 18 then mem.set x.2.1.toNat ((mem.getD x.2.1.toNat z8).set x.2.2.toNat (pv s.stk)) else mem
def evM (x : Ins) : Int × Int := if x.1 = 25 then (3, 0) else if x.1 = 24 then (2, x.2.1) else if x.1 = 23 then (1, x.2.1) else (0, 0)
abbrev tupM (l : List Ins) (m : List Int) (on : Bool) (s : MS) (mem : MemT) := (l, m, s.ret, on, s.at_, s.stk, s.loc, s.inp, s.out, s.set, s.rds, s.held, s.flt, s.stp, mem)
noncomputable abbrev stepF (n : Nat) (l : List Ins) (m : List Int) (on : Bool) (s : MS) (mem : MemT) := vm_Machine_Step.f n l m s.ret on s.at_ s.stk s.loc s.inp s.out s.set s.rds s.held s.flt s.stp mem
end Go.Proofs.Dk

/- Plain: a step of a machine whose state is in order. -/
namespace Go.Proofs.Dk
open Go
set_option maxRecDepth 100000
set_option linter.unusedVariables false
set_option linter.unusedSimpArgs false
theorem right8 {o A B : Int} (ho : o = 11 ∨ o = 12 ∨ o = 13 ∨ o = 14 ∨ o = 23 ∨ o = 24) (h : rightI (o, A, B) = true) : 0 ≤ A ∧ A ≤ 7 := by
  have key : op_Right.f 0 (o, A, B) = (if decide (A ≥ 0) then (if decide (A ≤ 7) then some (B == 0) else some false) else some false) := by
    rcases ho with rfl | rfl | rfl | rfl | rfl | rfl
    · exact opR11 0 A B
    · exact opR12 0 A B
    · exact opR13 0 A B
    · exact opR14 0 A B
    · exact opR23 0 A B
    · exact opR24 0 A B
  have h1 := (right_is 0 (o, A, B)).symm.trans key
  rw [h] at h1
  by_cases h2 : A ≥ 0
  · rw [if_pos (decide_eq_true h2)] at h1
    by_cases h3 : A ≤ 7
    · exact ⟨h2, h3⟩
    · rw [if_neg (by simpa using h3)] at h1; cases h1
  · rw [if_neg (by simpa using h2)] at h1; cases h1
theorem right16 {o A B : Int} (ho : o = 15 ∨ o = 16) (h : rightI (o, A, B) = true) : 0 ≤ A ∧ A ≤ 15 := by
  have key : op_Right.f 0 (o, A, B) = (if decide (A ≥ 0) then (if decide (A ≤ 15) then some (B == 0) else some false) else some false) := by
    rcases ho with rfl | rfl
    · exact opR15 0 A B
    · exact opR16 0 A B
  have h1 := (right_is 0 (o, A, B)).symm.trans key
  rw [h] at h1
  by_cases h2 : A ≥ 0
  · rw [if_pos (decide_eq_true h2)] at h1
    by_cases h3 : A ≤ 15
    · exact ⟨h2, h3⟩
    · rw [if_neg (by simpa using h3)] at h1; cases h1
  · rw [if_neg (by simpa using h2)] at h1; cases h1
theorem right88 {o A B : Int} (ho : o = 17 ∨ o = 18) (h : rightI (o, A, B) = true) : (0 ≤ A ∧ A ≤ 7) ∧ (0 ≤ B ∧ B ≤ 7) := by
  have key : op_Right.f 0 (o, A, B) = (if decide (A ≥ 0) then (if decide (A ≤ 7) then (if decide (B ≥ 0) then some (decide (B ≤ 7)) else some false) else some false) else some false) := by
    rcases ho with rfl | rfl
    · exact opR17 0 A B
    · exact opR18 0 A B
  have h1 := (right_is 0 (o, A, B)).symm.trans key
  rw [h] at h1
  by_cases h2 : A ≥ 0
  · rw [if_pos (decide_eq_true h2)] at h1
    by_cases h3 : A ≤ 7
    · rw [if_pos (decide_eq_true h3)] at h1
      by_cases h4 : B ≥ 0
      · rw [if_pos (decide_eq_true h4)] at h1
        exact ⟨⟨h2, h3⟩, h4, of_decide_eq_true (Option.some.inj h1).symm⟩
      · rw [if_neg (by simpa using h4)] at h1; cases h1
    · rw [if_neg (by simpa using h3)] at h1; cases h1
  · rw [if_neg (by simpa using h2)] at h1; cases h1
structure Row (l : List Ins) (m h : List Int) (st : List ByteArray) : Prop where
  fine : Fine l m h
  stk : Stk l m st
  rise : Rise l m
theorem row_of {l : List Ins} (h1 : locksI l = 0) (h2 : stacksI l = 0) : Row l (scanI l).1 (scanI l).2.1 (stacksL l) :=
  ⟨whole_fine (locks_whole2 h1), (stacks_Stk h2).2, locks_rise h1⟩
structure Ok (l : List Ins) (m : List Int) (st : List ByteArray) (s : MS) (i : Nat) (rs : List (Nat × Int)) : Prop where
  place : s.at_ = (i : Int)
  lt : i < l.length
  vt : VT (stL st i) s.stk
  lps : rs.map (·.1) = lps l m i
  rds : s.rds = rs.map (·.2)
  rnd : ∀ e ∈ rs, 1 ≤ e.2 ∧ e.2 ≤ argA l e.1
  held : ∃ v : Nat, s.held = (v : Int) ∧ HeldB l m i v
theorem grow_ok {v : List Int} (h : v.length ≤ 1000) : (decide ((v.length + 1) * 8 ≤ 140737488355328) && decide (1 ≤ 8)) = true := by simp; omega
theorem ix_ok {A k : Int} (h : 0 ≤ A ∧ A < k) : (decide (0 ≤ A) && decide (A < k)) = true := by simp; exact h
theorem pr_len (v : List Int) : (pr v).length = v.length - 1 := by
  unfold pr
  rw [List.length_take]
  omega
theorem i_step {i : Nat} (h : i < 1000000) : IntKind.wrap .i64 ((i : Int) + 1) = (i : Int) + 1 := wrap_id (by omega) (by omega)
theorem set_last {r : List Int} {x y : Int} : (r ++ [x]).set r.length y = r ++ [y] := by
  rw [List.set_append_right _ _ (Nat.le_refl _), Nat.sub_self]
  rfl
abbrev stepIs (n : Nat) (l : List Ins) (m : List Int) (x : Ins) (mt : Int) (s : MS) (mem : MemT) : Prop :=
  stepF n l m true s mem = some (evM x, 0, tupM l m (decide (x.1 ≠ 25)) (stepM x mt s mem) (memM x s mem))
theorem sm1 (n : Nat) {l : List Ins} {m : List Int} {i : Nat} (hl : l.length ≤ 200) (hi : i < l.length) {A B : Int} (hx : l.getD i (0, 0, 0) = (1, A, B)) (hr : rightI (1, A, B) = true) {ret stk loc inp out rds : List Int} {set held flt stp : Int} {mem : MemT} (hs : stk.length ≤ 16) {mt : Int} : stepIs n l m (1, A, B) mt ⟨ret, (i : Int), stk, loc, inp, out, set, rds, held, flt, stp⟩ mem := by
  have h0 : decide ((l.length : Int) > 0) = true := decide_eq_true (by omega)
  have hi2 : (decide (0 ≤ (i : Int)) && decide ((i : Int) < (l.length : Int))) = true := in_ix hi
  have hx2 : l.getD ((i : Int)).toNat (0, 0, 0) = (1, A, B) := by rw [Int.toNat_natCast]; exact hx
  have hn := i_step (show i < 1000000 by omega)
  refine (stp1 n (v1 := l) (v2 := m) (v3 := ret) (v5 := (i : Int)) (v6 := stk) (v7 := loc) (v8 := inp) (v9 := out) (v10 := set) (v11 := rds) (v12 := held) (v13 := flt) (v14 := stp) (v15 := mem) h0 hi2 hx2).trans ?_
  rw [if_pos (grow_ok (by omega)), hn]
  kernel_rfl
theorem sm2 (n : Nat) {l : List Ins} {m : List Int} {i : Nat} (hl : l.length ≤ 200) (hi : i < l.length) {A B : Int} (hx : l.getD i (0, 0, 0) = (2, A, B)) (hr : rightI (2, A, B) = true) {ret stk loc inp out rds : List Int} {set held flt stp : Int} {mem : MemT} (hs : stk.length ≤ 16) (hd : 1 ≤ stk.length) {mt : Int} : stepIs n l m (2, A, B) mt ⟨ret, (i : Int), stk, loc, inp, out, set, rds, held, flt, stp⟩ mem := by
  have h0 : decide ((l.length : Int) > 0) = true := decide_eq_true (by omega)
  have hi2 : (decide (0 ≤ (i : Int)) && decide ((i : Int) < (l.length : Int))) = true := in_ix hi
  have hx2 : l.getD ((i : Int)).toNat (0, 0, 0) = (2, A, B) := by rw [Int.toNat_natCast]; exact hx
  have hn := i_step (show i < 1000000 by omega)
  refine (stp2 n (v1 := l) (v2 := m) (v3 := ret) (v5 := (i : Int)) (v6 := stk) (v7 := loc) (v8 := inp) (v9 := out) (v10 := set) (v11 := rds) (v12 := held) (v13 := flt) (v14 := stp) (v15 := mem) h0 hi2 hx2).trans ?_
  rw [pop_is n _ _ _ _ _ (v6 := stk) _ _ _ _ _ _ _ _ (by omega) (by omega), Option.bind_some, hn]
  kernel_rfl
theorem sm3 (n : Nat) {l : List Ins} {m : List Int} {i : Nat} (hl : l.length ≤ 200) (hi : i < l.length) {A B : Int} (hx : l.getD i (0, 0, 0) = (3, A, B)) (hr : rightI (3, A, B) = true) {ret stk loc inp out rds : List Int} {set held flt stp : Int} {mem : MemT} (hs : stk.length ≤ 16) (hd : 1 ≤ stk.length) {mt : Int} : stepIs n l m (3, A, B) mt ⟨ret, (i : Int), stk, loc, inp, out, set, rds, held, flt, stp⟩ mem := by
  have h0 : decide ((l.length : Int) > 0) = true := decide_eq_true (by omega)
  have hi2 : (decide (0 ≤ (i : Int)) && decide ((i : Int) < (l.length : Int))) = true := in_ix hi
  have hx2 : l.getD ((i : Int)).toNat (0, 0, 0) = (3, A, B) := by rw [Int.toNat_natCast]; exact hx
  have hn := i_step (show i < 1000000 by omega)
  refine (stp3 n (v1 := l) (v2 := m) (v3 := ret) (v5 := (i : Int)) (v6 := stk) (v7 := loc) (v8 := inp) (v9 := out) (v10 := set) (v11 := rds) (v12 := held) (v13 := flt) (v14 := stp) (v15 := mem) h0 hi2 hx2).trans ?_
  rw [pop_ix (by omega) (by omega), if_pos (in_ix (by omega)), if_pos (grow_ok (by omega)), hn, Int.toNat_natCast]
  kernel_rfl
theorem sm4 (n : Nat) {l : List Ins} {m : List Int} {i : Nat} (hl : l.length ≤ 200) (hi : i < l.length) {A B : Int} (hx : l.getD i (0, 0, 0) = (4, A, B)) (hr : rightI (4, A, B) = true) {ret stk loc inp out rds : List Int} {set held flt stp : Int} {mem : MemT} (hs : stk.length ≤ 16) (hd : 2 ≤ stk.length) {mt : Int} : stepIs n l m (4, A, B) mt ⟨ret, (i : Int), stk, loc, inp, out, set, rds, held, flt, stp⟩ mem := by
  have h0 : decide ((l.length : Int) > 0) = true := decide_eq_true (by omega)
  have hi2 : (decide (0 ≤ (i : Int)) && decide ((i : Int) < (l.length : Int))) = true := in_ix hi
  have hx2 : l.getD ((i : Int)).toNat (0, 0, 0) = (4, A, B) := by rw [Int.toNat_natCast]; exact hx
  have hn := i_step (show i < 1000000 by omega)
  refine (stp4 n (v1 := l) (v2 := m) (v3 := ret) (v5 := (i : Int)) (v6 := stk) (v7 := loc) (v8 := inp) (v9 := out) (v10 := set) (v11 := rds) (v12 := held) (v13 := flt) (v14 := stp) (v15 := mem) h0 hi2 hx2).trans ?_
  rw [pop_is n _ _ _ _ _ (v6 := stk) _ _ _ _ _ _ _ _ (by omega) (by omega), Option.bind_some, pop_is n _ _ _ _ _ (v6 := pr stk) _ _ _ _ _ _ _ _ (by rw [pr_len]; omega) (by rw [pr_len]; omega), Option.bind_some]
  simp only []
  rw [if_pos (grow_ok (by rw [pr_len, pr_len]; omega)), if_pos (grow_ok (by rw [List.length_append, pr_len, pr_len, List.length_singleton]; omega)), hn]
  kernel_rfl
theorem sm5 (n : Nat) {l : List Ins} {m : List Int} {i : Nat} (hl : l.length ≤ 200) (hi : i < l.length) {A B : Int} (hx : l.getD i (0, 0, 0) = (5, A, B)) (hr : rightI (5, A, B) = true) {ret stk loc inp out rds : List Int} {set held flt stp : Int} {mem : MemT} (hs : stk.length ≤ 16) (hd : 2 ≤ stk.length) {mt : Int} : stepIs n l m (5, A, B) mt ⟨ret, (i : Int), stk, loc, inp, out, set, rds, held, flt, stp⟩ mem := by
  have h0 : decide ((l.length : Int) > 0) = true := decide_eq_true (by omega)
  have hi2 : (decide (0 ≤ (i : Int)) && decide ((i : Int) < (l.length : Int))) = true := in_ix hi
  have hx2 : l.getD ((i : Int)).toNat (0, 0, 0) = (5, A, B) := by rw [Int.toNat_natCast]; exact hx
  have hn := i_step (show i < 1000000 by omega)
  have hb : ∀ b : Bool, num_Bool.f n b = some (if b = true then 1 else 0) := fun b => by cases b <;> rfl
  refine (stp5 n (v1 := l) (v2 := m) (v3 := ret) (v5 := (i : Int)) (v6 := stk) (v7 := loc) (v8 := inp) (v9 := out) (v10 := set) (v11 := rds) (v12 := held) (v13 := flt) (v14 := stp) (v15 := mem) h0 hi2 hx2).trans ?_
  rw [pop_is n _ _ _ _ _ (v6 := stk) _ _ _ _ _ _ _ _ (by omega) (by omega), Option.bind_some, pop_is n _ _ _ _ _ (v6 := pr stk) _ _ _ _ _ _ _ _ (by rw [pr_len]; omega) (by rw [pr_len]; omega), Option.bind_some]
  simp only []
  rw [(two_is n (right5 hr) _ _).1, Option.bind_some]
  rw [hb, Option.bind_some, if_pos (grow_ok (by rw [pr_len, pr_len]; omega)), hn]
  kernel_rfl
theorem sm6 (n : Nat) {l : List Ins} {m : List Int} {i : Nat} (hl : l.length ≤ 200) (hi : i < l.length) {A B : Int} (hx : l.getD i (0, 0, 0) = (6, A, B)) (hr : rightI (6, A, B) = true) {ret stk loc inp out rds : List Int} {set held flt stp : Int} {mem : MemT} (hs : stk.length ≤ 16) (hd : 1 ≤ stk.length) {mt : Int} : stepIs n l m (6, A, B) mt ⟨ret, (i : Int), stk, loc, inp, out, set, rds, held, flt, stp⟩ mem := by
  have h0 : decide ((l.length : Int) > 0) = true := decide_eq_true (by omega)
  have hi2 : (decide (0 ≤ (i : Int)) && decide ((i : Int) < (l.length : Int))) = true := in_ix hi
  have hx2 : l.getD ((i : Int)).toNat (0, 0, 0) = (6, A, B) := by rw [Int.toNat_natCast]; exact hx
  have hn := i_step (show i < 1000000 by omega)
  refine (stp6 n (v1 := l) (v2 := m) (v3 := ret) (v5 := (i : Int)) (v6 := stk) (v7 := loc) (v8 := inp) (v9 := out) (v10 := set) (v11 := rds) (v12 := held) (v13 := flt) (v14 := stp) (v15 := mem) h0 hi2 hx2).trans ?_
  rw [pop_is n _ _ _ _ _ (v6 := stk) _ _ _ _ _ _ _ _ (by omega) (by omega), Option.bind_some]
  simp only []
  rw [show num_Neg.f n (pv stk) = some (IntKind.wrap .i64 (0 - pv stk)) from rfl, Option.bind_some, if_pos (grow_ok (by rw [pr_len]; omega)), hn]
  kernel_rfl
theorem sm7 (n : Nat) {l : List Ins} {m : List Int} {i : Nat} (hl : l.length ≤ 200) (hi : i < l.length) {A B : Int} (hx : l.getD i (0, 0, 0) = (7, A, B)) (hr : rightI (7, A, B) = true) {ret stk loc inp out rds : List Int} {set held flt stp : Int} {mem : MemT} (hs : stk.length ≤ 16) (hd : 1 ≤ stk.length) {mt : Int} : stepIs n l m (7, A, B) mt ⟨ret, (i : Int), stk, loc, inp, out, set, rds, held, flt, stp⟩ mem := by
  have h0 : decide ((l.length : Int) > 0) = true := decide_eq_true (by omega)
  have hi2 : (decide (0 ≤ (i : Int)) && decide ((i : Int) < (l.length : Int))) = true := in_ix hi
  have hx2 : l.getD ((i : Int)).toNat (0, 0, 0) = (7, A, B) := by rw [Int.toNat_natCast]; exact hx
  have hn := i_step (show i < 1000000 by omega)
  have hb : num_Not.f n (pv stk) = some (if pv stk = 0 then 1 else 0) := by
    unfold num_Not.f num_Bool.f
    by_cases h : pv stk = 0
    · rw [if_pos (by simpa using h), if_pos h]; rfl
    · rw [if_neg (by simpa using h), if_neg h]; rfl
  refine (stp7 n (v1 := l) (v2 := m) (v3 := ret) (v5 := (i : Int)) (v6 := stk) (v7 := loc) (v8 := inp) (v9 := out) (v10 := set) (v11 := rds) (v12 := held) (v13 := flt) (v14 := stp) (v15 := mem) h0 hi2 hx2).trans ?_
  rw [pop_is n _ _ _ _ _ (v6 := stk) _ _ _ _ _ _ _ _ (by omega) (by omega), Option.bind_some]
  simp only []
  rw [hb, Option.bind_some, if_pos (grow_ok (by rw [pr_len]; omega)), hn]
  kernel_rfl
theorem sm8 (n : Nat) {l : List Ins} {m : List Int} {i : Nat} (hl : l.length ≤ 200) (hi : i < l.length) {A B : Int} (hx : l.getD i (0, 0, 0) = (8, A, B)) (hr : rightI (8, A, B) = true) {ret stk loc inp out rds : List Int} {set held flt stp : Int} {mem : MemT} (hs : stk.length ≤ 16) (hd : 2 ≤ stk.length) {mt : Int} : stepIs n l m (8, A, B) mt ⟨ret, (i : Int), stk, loc, inp, out, set, rds, held, flt, stp⟩ mem := by
  have h0 : decide ((l.length : Int) > 0) = true := decide_eq_true (by omega)
  have hi2 : (decide (0 ≤ (i : Int)) && decide ((i : Int) < (l.length : Int))) = true := in_ix hi
  have hx2 : l.getD ((i : Int)).toNat (0, 0, 0) = (8, A, B) := by rw [Int.toNat_natCast]; exact hx
  have hn := i_step (show i < 1000000 by omega)
  refine (stp8 n (v1 := l) (v2 := m) (v3 := ret) (v5 := (i : Int)) (v6 := stk) (v7 := loc) (v8 := inp) (v9 := out) (v10 := set) (v11 := rds) (v12 := held) (v13 := flt) (v14 := stp) (v15 := mem) h0 hi2 hx2).trans ?_
  rw [pop_is n _ _ _ _ _ (v6 := stk) _ _ _ _ _ _ _ _ (by omega) (by omega), Option.bind_some, pop_is n _ _ _ _ _ (v6 := pr stk) _ _ _ _ _ _ _ _ (by rw [pr_len]; omega) (by rw [pr_len]; omega), Option.bind_some]
  simp only []
  rw [if_pos (grow_ok (by rw [pr_len, pr_len]; omega)), hn]
  kernel_rfl
theorem sm9 (n : Nat) {l : List Ins} {m : List Int} {i : Nat} (hl : l.length ≤ 200) (hi : i < l.length) {A B : Int} (hx : l.getD i (0, 0, 0) = (9, A, B)) (hr : rightI (9, A, B) = true) {ret stk loc inp out rds : List Int} {set held flt stp : Int} {mem : MemT} (hs : stk.length ≤ 16) (hd : 2 ≤ stk.length) {mt : Int} : stepIs n l m (9, A, B) mt ⟨ret, (i : Int), stk, loc, inp, out, set, rds, held, flt, stp⟩ mem := by
  have h0 : decide ((l.length : Int) > 0) = true := decide_eq_true (by omega)
  have hi2 : (decide (0 ≤ (i : Int)) && decide ((i : Int) < (l.length : Int))) = true := in_ix hi
  have hx2 : l.getD ((i : Int)).toNat (0, 0, 0) = (9, A, B) := by rw [Int.toNat_natCast]; exact hx
  have hn := i_step (show i < 1000000 by omega)
  refine (stp9 n (v1 := l) (v2 := m) (v3 := ret) (v5 := (i : Int)) (v6 := stk) (v7 := loc) (v8 := inp) (v9 := out) (v10 := set) (v11 := rds) (v12 := held) (v13 := flt) (v14 := stp) (v15 := mem) h0 hi2 hx2).trans ?_
  rw [pop_is n _ _ _ _ _ (v6 := stk) _ _ _ _ _ _ _ _ (by omega) (by omega), Option.bind_some, pop_is n _ _ _ _ _ (v6 := pr stk) _ _ _ _ _ _ _ _ (by rw [pr_len]; omega) (by rw [pr_len]; omega), Option.bind_some]
  simp only []
  rw [if_pos (grow_ok (by rw [pr_len, pr_len]; omega)), hn]
  kernel_rfl
theorem sm10 (n : Nat) {l : List Ins} {m : List Int} {i : Nat} (hl : l.length ≤ 200) (hi : i < l.length) {A B : Int} (hx : l.getD i (0, 0, 0) = (10, A, B)) (hr : rightI (10, A, B) = true) {ret stk loc inp out rds : List Int} {set held flt stp : Int} {mem : MemT} (hs : stk.length ≤ 16) {mt : Int} : stepIs n l m (10, A, B) mt ⟨ret, (i : Int), stk, loc, inp, out, set, rds, held, flt, stp⟩ mem := by
  have h0 : decide ((l.length : Int) > 0) = true := decide_eq_true (by omega)
  have hi2 : (decide (0 ≤ (i : Int)) && decide ((i : Int) < (l.length : Int))) = true := in_ix hi
  have hx2 : l.getD ((i : Int)).toNat (0, 0, 0) = (10, A, B) := by rw [Int.toNat_natCast]; exact hx
  have hn := i_step (show i < 1000000 by omega)
  refine (stp10 n (v1 := l) (v2 := m) (v3 := ret) (v5 := (i : Int)) (v6 := stk) (v7 := loc) (v8 := inp) (v9 := out) (v10 := set) (v11 := rds) (v12 := held) (v13 := flt) (v14 := stp) (v15 := mem) h0 hi2 hx2).trans ?_
  rw [hn]
  kernel_rfl
theorem sm11 (n : Nat) {l : List Ins} {m : List Int} {i : Nat} (hl : l.length ≤ 200) (hi : i < l.length) {A B : Int} (hx : l.getD i (0, 0, 0) = (11, A, B)) (hr : rightI (11, A, B) = true) {ret stk loc inp out rds : List Int} {set held flt stp : Int} {mem : MemT} (hs : stk.length ≤ 16) {mt : Int} : stepIs n l m (11, A, B) mt ⟨ret, (i : Int), stk, loc, inp, out, set, rds, held, flt, stp⟩ mem := by
  have h0 : decide ((l.length : Int) > 0) = true := decide_eq_true (by omega)
  have hi2 : (decide (0 ≤ (i : Int)) && decide ((i : Int) < (l.length : Int))) = true := in_ix hi
  have hx2 : l.getD ((i : Int)).toNat (0, 0, 0) = (11, A, B) := by rw [Int.toNat_natCast]; exact hx
  have hn := i_step (show i < 1000000 by omega)
  have ha := right8 (by omega) hr
  refine (stp11 n (v1 := l) (v2 := m) (v3 := ret) (v5 := (i : Int)) (v6 := stk) (v7 := loc) (v8 := inp) (v9 := out) (v10 := set) (v11 := rds) (v12 := held) (v13 := flt) (v14 := stp) (v15 := mem) h0 hi2 hx2).trans ?_
  rw [if_pos (ix_ok (by omega)), if_pos (grow_ok (by omega)), hn]
  kernel_rfl
theorem sm13 (n : Nat) {l : List Ins} {m : List Int} {i : Nat} (hl : l.length ≤ 200) (hi : i < l.length) {A B : Int} (hx : l.getD i (0, 0, 0) = (13, A, B)) (hr : rightI (13, A, B) = true) {ret stk loc inp out rds : List Int} {set held flt stp : Int} {mem : MemT} (hs : stk.length ≤ 16) {mt : Int} : stepIs n l m (13, A, B) mt ⟨ret, (i : Int), stk, loc, inp, out, set, rds, held, flt, stp⟩ mem := by
  have h0 : decide ((l.length : Int) > 0) = true := decide_eq_true (by omega)
  have hi2 : (decide (0 ≤ (i : Int)) && decide ((i : Int) < (l.length : Int))) = true := in_ix hi
  have hx2 : l.getD ((i : Int)).toNat (0, 0, 0) = (13, A, B) := by rw [Int.toNat_natCast]; exact hx
  have hn := i_step (show i < 1000000 by omega)
  have ha := right8 (by omega) hr
  refine (stp13 n (v1 := l) (v2 := m) (v3 := ret) (v5 := (i : Int)) (v6 := stk) (v7 := loc) (v8 := inp) (v9 := out) (v10 := set) (v11 := rds) (v12 := held) (v13 := flt) (v14 := stp) (v15 := mem) h0 hi2 hx2).trans ?_
  rw [if_pos (ix_ok (by omega)), if_pos (grow_ok (by omega)), hn]
  kernel_rfl
theorem sm15 (n : Nat) {l : List Ins} {m : List Int} {i : Nat} (hl : l.length ≤ 200) (hi : i < l.length) {A B : Int} (hx : l.getD i (0, 0, 0) = (15, A, B)) (hr : rightI (15, A, B) = true) {ret stk loc inp out rds : List Int} {set held flt stp : Int} {mem : MemT} (hs : stk.length ≤ 16) {mt : Int} : stepIs n l m (15, A, B) mt ⟨ret, (i : Int), stk, loc, inp, out, set, rds, held, flt, stp⟩ mem := by
  have h0 : decide ((l.length : Int) > 0) = true := decide_eq_true (by omega)
  have hi2 : (decide (0 ≤ (i : Int)) && decide ((i : Int) < (l.length : Int))) = true := in_ix hi
  have hx2 : l.getD ((i : Int)).toNat (0, 0, 0) = (15, A, B) := by rw [Int.toNat_natCast]; exact hx
  have hn := i_step (show i < 1000000 by omega)
  have ha := right16 (by omega) hr
  refine (stp15 n (v1 := l) (v2 := m) (v3 := ret) (v5 := (i : Int)) (v6 := stk) (v7 := loc) (v8 := inp) (v9 := out) (v10 := set) (v11 := rds) (v12 := held) (v13 := flt) (v14 := stp) (v15 := mem) h0 hi2 hx2).trans ?_
  rw [if_pos (ix_ok (by omega)), if_pos (grow_ok (by omega)), hn]
  kernel_rfl
theorem sm17 (n : Nat) {l : List Ins} {m : List Int} {i : Nat} (hl : l.length ≤ 200) (hi : i < l.length) {A B : Int} (hx : l.getD i (0, 0, 0) = (17, A, B)) (hr : rightI (17, A, B) = true) {ret stk loc inp out rds : List Int} {set held flt stp : Int} {mem : MemT} (hs : stk.length ≤ 16) {mt : Int} : stepIs n l m (17, A, B) mt ⟨ret, (i : Int), stk, loc, inp, out, set, rds, held, flt, stp⟩ mem := by
  have h0 : decide ((l.length : Int) > 0) = true := decide_eq_true (by omega)
  have hi2 : (decide (0 ≤ (i : Int)) && decide ((i : Int) < (l.length : Int))) = true := in_ix hi
  have hx2 : l.getD ((i : Int)).toNat (0, 0, 0) = (17, A, B) := by rw [Int.toNat_natCast]; exact hx
  have hn := i_step (show i < 1000000 by omega)
  have ha := right88 (by omega) hr
  refine (stp17 n (v1 := l) (v2 := m) (v3 := ret) (v5 := (i : Int)) (v6 := stk) (v7 := loc) (v8 := inp) (v9 := out) (v10 := set) (v11 := rds) (v12 := held) (v13 := flt) (v14 := stp) (v15 := mem) h0 hi2 hx2).trans ?_
  rw [if_pos (ix_ok (by omega)), if_pos (ix_ok (by omega)), if_pos (grow_ok (by omega)), hn]
  kernel_rfl
theorem sm12 (n : Nat) {l : List Ins} {m : List Int} {i : Nat} (hl : l.length ≤ 200) (hi : i < l.length) {A B : Int} (hx : l.getD i (0, 0, 0) = (12, A, B)) (hr : rightI (12, A, B) = true) {ret stk loc inp out rds : List Int} {set held flt stp : Int} {mem : MemT} (hs : stk.length ≤ 16) (hd : 1 ≤ stk.length) {mt : Int} : stepIs n l m (12, A, B) mt ⟨ret, (i : Int), stk, loc, inp, out, set, rds, held, flt, stp⟩ mem := by
  have h0 : decide ((l.length : Int) > 0) = true := decide_eq_true (by omega)
  have hi2 : (decide (0 ≤ (i : Int)) && decide ((i : Int) < (l.length : Int))) = true := in_ix hi
  have hx2 : l.getD ((i : Int)).toNat (0, 0, 0) = (12, A, B) := by rw [Int.toNat_natCast]; exact hx
  have hn := i_step (show i < 1000000 by omega)
  have ha := right8 (by omega) hr
  refine (stp12 n (v1 := l) (v2 := m) (v3 := ret) (v5 := (i : Int)) (v6 := stk) (v7 := loc) (v8 := inp) (v9 := out) (v10 := set) (v11 := rds) (v12 := held) (v13 := flt) (v14 := stp) (v15 := mem) h0 hi2 hx2).trans ?_
  rw [pop_is n _ _ _ _ _ (v6 := stk) _ _ _ _ _ _ _ _ (by omega) (by omega), Option.bind_some, if_pos (ix_ok (by omega)), hn]
  kernel_rfl
theorem sm14 (n : Nat) {l : List Ins} {m : List Int} {i : Nat} (hl : l.length ≤ 200) (hi : i < l.length) {A B : Int} (hx : l.getD i (0, 0, 0) = (14, A, B)) (hr : rightI (14, A, B) = true) {ret stk loc inp out rds : List Int} {set held flt stp : Int} {mem : MemT} (hs : stk.length ≤ 16) (hd : 1 ≤ stk.length) {mt : Int} : stepIs n l m (14, A, B) mt ⟨ret, (i : Int), stk, loc, inp, out, set, rds, held, flt, stp⟩ mem := by
  have h0 : decide ((l.length : Int) > 0) = true := decide_eq_true (by omega)
  have hi2 : (decide (0 ≤ (i : Int)) && decide ((i : Int) < (l.length : Int))) = true := in_ix hi
  have hx2 : l.getD ((i : Int)).toNat (0, 0, 0) = (14, A, B) := by rw [Int.toNat_natCast]; exact hx
  have hn := i_step (show i < 1000000 by omega)
  have ha := right8 (by omega) hr
  refine (stp14 n (v1 := l) (v2 := m) (v3 := ret) (v5 := (i : Int)) (v6 := stk) (v7 := loc) (v8 := inp) (v9 := out) (v10 := set) (v11 := rds) (v12 := held) (v13 := flt) (v14 := stp) (v15 := mem) h0 hi2 hx2).trans ?_
  rw [pop_is n _ _ _ _ _ (v6 := stk) _ _ _ _ _ _ _ _ (by omega) (by omega), Option.bind_some, if_pos (ix_ok (by omega)), hn]
  kernel_rfl
theorem sm16 (n : Nat) {l : List Ins} {m : List Int} {i : Nat} (hl : l.length ≤ 200) (hi : i < l.length) {A B : Int} (hx : l.getD i (0, 0, 0) = (16, A, B)) (hr : rightI (16, A, B) = true) {ret stk loc inp out rds : List Int} {set held flt stp : Int} {mem : MemT} (hs : stk.length ≤ 16) (hd : 1 ≤ stk.length) {mt : Int} : stepIs n l m (16, A, B) mt ⟨ret, (i : Int), stk, loc, inp, out, set, rds, held, flt, stp⟩ mem := by
  have h0 : decide ((l.length : Int) > 0) = true := decide_eq_true (by omega)
  have hi2 : (decide (0 ≤ (i : Int)) && decide ((i : Int) < (l.length : Int))) = true := in_ix hi
  have hx2 : l.getD ((i : Int)).toNat (0, 0, 0) = (16, A, B) := by rw [Int.toNat_natCast]; exact hx
  have hn := i_step (show i < 1000000 by omega)
  have ha := right16 (by omega) hr
  refine (stp16 n (v1 := l) (v2 := m) (v3 := ret) (v5 := (i : Int)) (v6 := stk) (v7 := loc) (v8 := inp) (v9 := out) (v10 := set) (v11 := rds) (v12 := held) (v13 := flt) (v14 := stp) (v15 := mem) h0 hi2 hx2).trans ?_
  rw [pop_is n _ _ _ _ _ (v6 := stk) _ _ _ _ _ _ _ _ (by omega) (by omega), Option.bind_some, if_pos (ix_ok (by omega)), if_neg (by simp; omega), hn]
  kernel_rfl
theorem sm18 (n : Nat) {l : List Ins} {m : List Int} {i : Nat} (hl : l.length ≤ 200) (hi : i < l.length) {A B : Int} (hx : l.getD i (0, 0, 0) = (18, A, B)) (hr : rightI (18, A, B) = true) {ret stk loc inp out rds : List Int} {set held flt stp : Int} {mem : MemT} (hs : stk.length ≤ 16) (hd : 1 ≤ stk.length) {mt : Int} : stepIs n l m (18, A, B) mt ⟨ret, (i : Int), stk, loc, inp, out, set, rds, held, flt, stp⟩ mem := by
  have h0 : decide ((l.length : Int) > 0) = true := decide_eq_true (by omega)
  have hi2 : (decide (0 ≤ (i : Int)) && decide ((i : Int) < (l.length : Int))) = true := in_ix hi
  have hx2 : l.getD ((i : Int)).toNat (0, 0, 0) = (18, A, B) := by rw [Int.toNat_natCast]; exact hx
  have hn := i_step (show i < 1000000 by omega)
  have ha := right88 (by omega) hr
  refine (stp18 n (v1 := l) (v2 := m) (v3 := ret) (v5 := (i : Int)) (v6 := stk) (v7 := loc) (v8 := inp) (v9 := out) (v10 := set) (v11 := rds) (v12 := held) (v13 := flt) (v14 := stp) (v15 := mem) h0 hi2 hx2).trans ?_
  rw [pop_is n _ _ _ _ _ (v6 := stk) _ _ _ _ _ _ _ _ (by omega) (by omega), Option.bind_some, if_pos (ix_ok (by omega)), if_pos (ix_ok (by omega)), hn]
  kernel_rfl
theorem sm19 (n : Nat) {l : List Ins} {m : List Int} {i : Nat} (hl : l.length ≤ 200) (hi : i < l.length) {A B : Int} (hx : l.getD i (0, 0, 0) = (19, A, B)) (hr : rightI (19, A, B) = true) {ret stk loc inp out rds : List Int} {set held flt stp : Int} {mem : MemT} (hs : stk.length ≤ 16) {mt : Int} : stepIs n l m (19, A, B) mt ⟨ret, (i : Int), stk, loc, inp, out, set, rds, held, flt, stp⟩ mem := by
  have h0 : decide ((l.length : Int) > 0) = true := decide_eq_true (by omega)
  have hi2 : (decide (0 ≤ (i : Int)) && decide ((i : Int) < (l.length : Int))) = true := in_ix hi
  have hx2 : l.getD ((i : Int)).toNat (0, 0, 0) = (19, A, B) := by rw [Int.toNat_natCast]; exact hx
  have hn := i_step (show i < 1000000 by omega)
  have ha := rightJ (.inl rfl) hr
  refine (stp19 n (v1 := l) (v2 := m) (v3 := ret) (v5 := (i : Int)) (v6 := stk) (v7 := loc) (v8 := inp) (v9 := out) (v10 := set) (v11 := rds) (v12 := held) (v13 := flt) (v14 := stp) (v15 := mem) h0 hi2 hx2).trans ?_
  rw [hn, wrap_id (show -9223372036854775808 ≤ (i : Int) + 1 + A by omega) (by omega)]
  kernel_rfl
theorem sm20 (n : Nat) {l : List Ins} {m : List Int} {i : Nat} (hl : l.length ≤ 200) (hi : i < l.length) {A B : Int} (hx : l.getD i (0, 0, 0) = (20, A, B)) (hr : rightI (20, A, B) = true) {ret stk loc inp out rds : List Int} {set held flt stp : Int} {mem : MemT} (hs : stk.length ≤ 16) (hd : 1 ≤ stk.length) {mt : Int} : stepIs n l m (20, A, B) mt ⟨ret, (i : Int), stk, loc, inp, out, set, rds, held, flt, stp⟩ mem := by
  have h0 : decide ((l.length : Int) > 0) = true := decide_eq_true (by omega)
  have hi2 : (decide (0 ≤ (i : Int)) && decide ((i : Int) < (l.length : Int))) = true := in_ix hi
  have hx2 : l.getD ((i : Int)).toNat (0, 0, 0) = (20, A, B) := by rw [Int.toNat_natCast]; exact hx
  have hn := i_step (show i < 1000000 by omega)
  have ha := rightJ (.inr rfl) hr
  refine (stp20 n (v1 := l) (v2 := m) (v3 := ret) (v5 := (i : Int)) (v6 := stk) (v7 := loc) (v8 := inp) (v9 := out) (v10 := set) (v11 := rds) (v12 := held) (v13 := flt) (v14 := stp) (v15 := mem) h0 hi2 hx2).trans ?_
  rw [pop_is n _ _ _ _ _ (v6 := stk) _ _ _ _ _ _ _ _ (by omega) (by omega), Option.bind_some]
  simp only []
  rw [hn, wrap_id (show -9223372036854775808 ≤ (i : Int) + 1 + A by omega) (by omega)]
  by_cases h : pv stk = 0
  · rw [if_pos (by simpa using h)]
    unfold stepM
    rw [show nextM (20, A, B) mt ⟨ret, (i : Int), stk, loc, inp, out, set, rds, held, flt, stp⟩ = (i : Int) + 1 + A by
      unfold nextM
      rw [if_neg (show ¬ (20 : Int) = 19 by decide), if_pos rfl, if_pos h]]
    kernel_rfl
  · rw [if_neg (by simpa using h)]
    unfold stepM
    rw [show nextM (20, A, B) mt ⟨ret, (i : Int), stk, loc, inp, out, set, rds, held, flt, stp⟩ = (i : Int) + 1 by
      unfold nextM
      rw [if_neg (show ¬ (20 : Int) = 19 by decide), if_pos rfl, if_neg h]]
    kernel_rfl
theorem sm21 (n : Nat) {l : List Ins} {m : List Int} {i : Nat} (hl : l.length ≤ 200) (hi : i < l.length) {A B : Int} (hx : l.getD i (0, 0, 0) = (21, A, B)) (hr : rightI (21, A, B) = true) {ret stk loc inp out rds : List Int} {set held flt stp : Int} {mem : MemT} (hs : stk.length ≤ 16) (hd : rds.length ≤ 200) {mt : Int} : stepIs n l m (21, A, B) mt ⟨ret, (i : Int), stk, loc, inp, out, set, rds, held, flt, stp⟩ mem := by
  have h0 : decide ((l.length : Int) > 0) = true := decide_eq_true (by omega)
  have hi2 : (decide (0 ≤ (i : Int)) && decide ((i : Int) < (l.length : Int))) = true := in_ix hi
  have hx2 : l.getD ((i : Int)).toNat (0, 0, 0) = (21, A, B) := by rw [Int.toNat_natCast]; exact hx
  have hn := i_step (show i < 1000000 by omega)
  refine (stp21 n (v1 := l) (v2 := m) (v3 := ret) (v5 := (i : Int)) (v6 := stk) (v7 := loc) (v8 := inp) (v9 := out) (v10 := set) (v11 := rds) (v12 := held) (v13 := flt) (v14 := stp) (v15 := mem) h0 hi2 hx2).trans ?_
  rw [if_pos (grow_ok (by omega)), hn]
  kernel_rfl
theorem sm22 (n : Nat) {l : List Ins} {m : List Int} {i : Nat} (hl : l.length ≤ 200) (hi : i < l.length) {A B : Int} (hx : l.getD i (0, 0, 0) = (22, A, B)) (hr : rightI (22, A, B) = true) {ret stk loc inp out rds : List Int} {set held flt stp : Int} {mem : MemT} (hs : stk.length ≤ 16) {r0 : List Int} {r : Int} (hrd : rds = r0 ++ [r]) (hr1 : 1 ≤ r ∧ r ≤ 1000) (hd : r0.length ≤ 200) (hm : m.length = l.length) {k : Nat} (hk : m.getD i 0 = (k : Int)) (hk2 : k < i) {mt : Int} (hmt : mt = m.getD i 0) : stepIs n l m (22, A, B) mt ⟨ret, (i : Int), stk, loc, inp, out, set, rds, held, flt, stp⟩ mem := by
  have h0 : decide ((l.length : Int) > 0) = true := decide_eq_true (by omega)
  have hi2 : (decide (0 ≤ (i : Int)) && decide ((i : Int) < (l.length : Int))) = true := in_ix hi
  have hx2 : l.getD ((i : Int)).toNat (0, 0, 0) = (22, A, B) := by rw [Int.toNat_natCast]; exact hx
  have hn := i_step (show i < 1000000 by omega)
  have hlen : (r0 ++ [r]).length = r0.length + 1 := by simp
  subst hrd
  have e1 : IntKind.wrap .i64 (((r0 ++ [r]).length : Int) - 1) = (r0.length : Int) := by
    rw [wrap_id (by omega) (by omega)]; omega
  have e2 : (r0 ++ [r]).getD r0.length 0 = r := by
    have := pv_app r0 r
    unfold pv at this
    rw [hlen, Nat.add_sub_cancel] at this
    exact this
  have e3 : IntKind.wrap .i64 (r - 1) = r - 1 := wrap_id (by omega) (by omega)
  have e4 : (r0 ++ [r - 1]).getD r0.length 0 = r - 1 := by
    have := pv_app r0 (r - 1)
    unfold pv at this
    rw [show (r0 ++ [r - 1]).length = r0.length + 1 by simp, Nat.add_sub_cancel] at this
    exact this
  have e5 : (r0 ++ [r - 1]).length = r0.length + 1 := by simp
  have e6 : (r0 ++ [r - 1]).take r0.length = r0 := by rw [List.take_left]
  have a1 : r - 1 > 0 → nextM (22, A, B) mt ⟨ret, (i : Int), stk, loc, inp, out, set, r0 ++ [r], held, flt, stp⟩ = (k : Int) + 1 ∧ rdsM (22, A, B) ⟨ret, (i : Int), stk, loc, inp, out, set, r0 ++ [r], held, flt, stp⟩ = r0 ++ [r - 1] := fun h => by
    unfold nextM rdsM
    simp only [pv_app, pr_app]
    simp only [if_true, if_pos h, hmt, hk]
    exact ⟨rfl, rfl⟩
  have a2 : ¬ r - 1 > 0 → nextM (22, A, B) mt ⟨ret, (i : Int), stk, loc, inp, out, set, r0 ++ [r], held, flt, stp⟩ = (i : Int) + 1 ∧ rdsM (22, A, B) ⟨ret, (i : Int), stk, loc, inp, out, set, r0 ++ [r], held, flt, stp⟩ = r0 := fun h => by
    unfold nextM rdsM
    simp only [pv_app, pr_app]
    simp only [if_true, if_neg h]
    exact ⟨rfl, rfl⟩
  refine (stp22 n (v1 := l) (v2 := m) (v3 := ret) (v5 := (i : Int)) (v6 := stk) (v7 := loc) (v8 := inp) (v9 := out) (v10 := set) (v11 := r0 ++ [r]) (v12 := held) (v13 := flt) (v14 := stp) (v15 := mem) h0 hi2 hx2).trans ?_
  rw [e1]
  simp only [Int.toNat_natCast, e2, e3, set_last, e4, Nat.sub_zero, e6, hk]
  rw [if_pos (in_ix (by omega)), if_pos (in_ix (by omega)), if_pos (in_ix (by omega)), hn, i_step (show k < 1000000 by omega)]
  by_cases h : r - 1 > 0
  · rw [if_pos (decide_eq_true h), if_pos (in_ix (by omega))]
    unfold stepM
    rw [(a1 h).1, (a1 h).2]
    kernel_rfl
  · rw [if_neg (by simpa using h), if_pos (by simp only [e5, Bool.and_eq_true, decide_eq_true_eq]; omega)]
    unfold stepM
    rw [(a2 h).1, (a2 h).2]
    kernel_rfl
theorem sm23 (n : Nat) {l : List Ins} {m : List Int} {i : Nat} (hl : l.length ≤ 200) (hi : i < l.length) {A B : Int} (hx : l.getD i (0, 0, 0) = (23, A, B)) (hr : rightI (23, A, B) = true) {ret stk loc inp out rds : List Int} {set held flt stp : Int} {mem : MemT} (hs : stk.length ≤ 16) {mt : Int} : stepIs n l m (23, A, B) mt ⟨ret, (i : Int), stk, loc, inp, out, set, rds, held, flt, stp⟩ mem := by
  have h0 : decide ((l.length : Int) > 0) = true := decide_eq_true (by omega)
  have hi2 : (decide (0 ≤ (i : Int)) && decide ((i : Int) < (l.length : Int))) = true := in_ix hi
  have hx2 : l.getD ((i : Int)).toNat (0, 0, 0) = (23, A, B) := by rw [Int.toNat_natCast]; exact hx
  have hn := i_step (show i < 1000000 by omega)
  have ha := right8 (by omega) hr
  refine (stp23 n (v1 := l) (v2 := m) (v3 := ret) (v5 := (i : Int)) (v6 := stk) (v7 := loc) (v8 := inp) (v9 := out) (v10 := set) (v11 := rds) (v12 := held) (v13 := flt) (v14 := stp) (v15 := mem) h0 hi2 hx2).trans ?_
  rw [if_neg (by simp; omega), hn]
  kernel_rfl
theorem sm24 (n : Nat) {l : List Ins} {m : List Int} {i : Nat} (hl : l.length ≤ 200) (hi : i < l.length) {A B : Int} (hx : l.getD i (0, 0, 0) = (24, A, B)) (hr : rightI (24, A, B) = true) {ret stk loc inp out rds : List Int} {set held flt stp : Int} {mem : MemT} (hs : stk.length ≤ 16) {mt : Int} : stepIs n l m (24, A, B) mt ⟨ret, (i : Int), stk, loc, inp, out, set, rds, held, flt, stp⟩ mem := by
  have h0 : decide ((l.length : Int) > 0) = true := decide_eq_true (by omega)
  have hi2 : (decide (0 ≤ (i : Int)) && decide ((i : Int) < (l.length : Int))) = true := in_ix hi
  have hx2 : l.getD ((i : Int)).toNat (0, 0, 0) = (24, A, B) := by rw [Int.toNat_natCast]; exact hx
  have hn := i_step (show i < 1000000 by omega)
  have ha := right8 (by omega) hr
  refine (stp24 n (v1 := l) (v2 := m) (v3 := ret) (v5 := (i : Int)) (v6 := stk) (v7 := loc) (v8 := inp) (v9 := out) (v10 := set) (v11 := rds) (v12 := held) (v13 := flt) (v14 := stp) (v15 := mem) h0 hi2 hx2).trans ?_
  rw [if_neg (by simp; omega), hn]
  kernel_rfl
theorem sm25 (n : Nat) {l : List Ins} {m : List Int} {i : Nat} (hl : l.length ≤ 200) (hi : i < l.length) {A B : Int} (hx : l.getD i (0, 0, 0) = (25, A, B)) (hr : rightI (25, A, B) = true) {ret stk loc inp out rds : List Int} {set held flt stp : Int} {mem : MemT} (hs : stk.length ≤ 16) {mt : Int} : stepIs n l m (25, A, B) mt ⟨ret, (i : Int), stk, loc, inp, out, set, rds, held, flt, stp⟩ mem := by
  have h0 : decide ((l.length : Int) > 0) = true := decide_eq_true (by omega)
  have hi2 : (decide (0 ≤ (i : Int)) && decide ((i : Int) < (l.length : Int))) = true := in_ix hi
  have hx2 : l.getD ((i : Int)).toNat (0, 0, 0) = (25, A, B) := by rw [Int.toNat_natCast]; exact hx
  have hn := i_step (show i < 1000000 by omega)
  refine (stp25 n (v1 := l) (v2 := m) (v3 := ret) (v5 := (i : Int)) (v6 := stk) (v7 := loc) (v8 := inp) (v9 := out) (v10 := set) (v11 := rds) (v12 := held) (v13 := flt) (v14 := stp) (v15 := mem) h0 hi2 hx2).trans ?_
  rw [hn]
  kernel_rfl
end Go.Proofs.Dk

/- Plain: a machine's state stays in order. -/
namespace Go.Proofs.Dk
open Go
set_option maxRecDepth 100000
set_option linter.unusedVariables false
set_option linter.unusedSimpArgs false
theorem bits01 {x y : Int} (hx : x = 0 ∨ x = 1) (hy : y = 0 ∨ y = 1) : (bits .and .i64 y x = 0 ∨ bits .and .i64 y x = 1) ∧ (bits .or .i64 y x = 0 ∨ bits .or .i64 y x = 1) := by
  rcases hx with rfl | rfl <;> rcases hy with rfl | rfl
  · exact ⟨.inl (by kernel_rfl), .inl (by kernel_rfl)⟩
  · exact ⟨.inl (by kernel_rfl), .inr (by kernel_rfl)⟩
  · exact ⟨.inl (by kernel_rfl), .inr (by kernel_rfl)⟩
  · exact ⟨.inr (by kernel_rfl), .inr (by kernel_rfl)⟩
theorem vt_step {o A B : Int} {t : ByteArray} {S : MS} {mem : MemT} (hr : rightI (o, A, B) = true) (h : (afterI (o, A, B) t).2 = 0) (hv : VT t S.stk) :
    VT (afterI (o, A, B) t).1 (stkM (o, A, B) S mem) ∧ (o = 2 ∨ o = 3 ∨ o = 6 ∨ o = 7 ∨ o = 12 ∨ o = 14 ∨ o = 16 ∨ o = 18 ∨ o = 20 → 1 ≤ S.stk.length) ∧ (o = 4 ∨ o = 5 ∨ o = 8 ∨ o = 9 → 2 ≤ S.stk.length) := by
  have hA := fun (h5 : o = 5) => right5 (h5 ▸ hr)
  have in_ : ∀ y, (o = 1 ∨ o = 11 ∨ o = 13 ∨ o = 15 ∨ o = 17) → stkM (o, A, B) S mem = S.stk ++ [y] → VT (afterI (o, A, B) t).1 (stkM (o, A, B) S mem) ∧ (o = 2 ∨ o = 3 ∨ o = 6 ∨ o = 7 ∨ o = 12 ∨ o = 14 ∨ o = 16 ∨ o = 18 ∨ o = 20 → 1 ≤ S.stk.length) ∧ (o = 4 ∨ o = 5 ∨ o = 8 ∨ o = 9 → 2 ≤ S.stk.length) := fun y ho e => by
    rw [e]
    exact ⟨vt_in h hv ho y, fun h => by omega, fun h => by omega⟩
  have out : (o = 2 ∨ o = 12 ∨ o = 14 ∨ o = 16 ∨ o = 18 ∨ o = 20) → VT (afterI (o, A, B) t).1 (stkM (o, A, B) S mem) ∧ (o = 2 ∨ o = 3 ∨ o = 6 ∨ o = 7 ∨ o = 12 ∨ o = 14 ∨ o = 16 ∨ o = 18 ∨ o = 20 → 1 ≤ S.stk.length) ∧ (o = 4 ∨ o = 5 ∨ o = 8 ∨ o = 9 → 2 ≤ S.stk.length) := fun ho => by
    obtain ⟨r, x, e1, e2⟩ := vt_out h hv ho
    have e : stkM (o, A, B) S mem = pr S.stk := by
      unfold stkM
      rw [if_neg (by show ¬ o = 1; omega), if_pos (show o = 2 ∨ o = 12 ∨ o = 14 ∨ o = 16 ∨ o = 18 ∨ o = 20 from ho)]
    rw [e, e1, pr_app]
    exact ⟨e2, fun _ => by simp, fun h => by omega⟩
  have no : (o = 19 ∨ o = 21 ∨ o = 22 ∨ o = 23 ∨ o = 24 ∨ o = 25) → stkM (o, A, B) S mem = S.stk → VT (afterI (o, A, B) t).1 (stkM (o, A, B) S mem) ∧ (o = 2 ∨ o = 3 ∨ o = 6 ∨ o = 7 ∨ o = 12 ∨ o = 14 ∨ o = 16 ∨ o = 18 ∨ o = 20 → 1 ≤ S.stk.length) ∧ (o = 4 ∨ o = 5 ∨ o = 8 ∨ o = 9 → 2 ≤ S.stk.length) := fun ho e => by
    rw [e]
    exact ⟨vt_no h hv ho, fun h => by omega, fun h => by omega⟩
  rcases op_cases (right_op hr) with ho | ho | ho | ho | ho | ho | ho | ho | ho | ho | ho | ho | ho | ho | ho | ho | ho | ho | ho | ho | ho | ho | ho | ho | ho
  · exact in_ A (by omega) (by subst ho; kernel_rfl)
  · exact out (by omega)
  · obtain ⟨r, x, e1, e2⟩ := vt_dup h hv ho
    have e : stkM (o, A, B) S mem = S.stk ++ [pv S.stk] := by subst ho; kernel_rfl
    rw [e, e1, pv_app, List.append_assoc]
    exact ⟨e2, fun _ => by simp, fun h => by omega⟩
  · obtain ⟨r, x, y, e1, e2⟩ := vt_swap h hv ho
    have e : stkM (o, A, B) S mem = (pr (pr S.stk) ++ [pv S.stk]) ++ [pv (pr S.stk)] := by subst ho; kernel_rfl
    rw [e, e1, pv_app2, pr_app2, pv_app, pr_app, List.append_assoc]
    exact ⟨e2, fun h => by omega, fun _ => by simp⟩
  · obtain ⟨r, x, y, e1, e2⟩ := vt_bin h hv ho
    have e : stkM (o, A, B) S mem = pr (pr S.stk) ++ [(twoI A (pv (pr S.stk)) (pv S.stk)).1] := by subst ho; kernel_rfl
    rw [e, e1, pv_app2, pr_app2, pv_app, pr_app]
    exact ⟨e2 _ (two_is 0 (hA ho) _ _).2, fun h => by omega, fun _ => by simp⟩
  · obtain ⟨r, x, e1, e2⟩ := vt_neg h hv ho
    have e : stkM (o, A, B) S mem = pr S.stk ++ [IntKind.wrap .i64 (0 - pv S.stk)] := by subst ho; kernel_rfl
    rw [e, e1, pr_app]
    exact ⟨e2 _, fun _ => by simp, fun h => by omega⟩
  · obtain ⟨r, x, e1, e2, e3⟩ := vt_not h hv ho
    have e : stkM (o, A, B) S mem = pr S.stk ++ [if pv S.stk = 0 then 1 else 0] := by subst ho; kernel_rfl
    rw [e, e1, pr_app]
    exact ⟨e3 _ (by split; exact .inr rfl; exact .inl rfl), fun _ => by simp, fun h => by omega⟩
  · obtain ⟨r, x, y, e1, e2, e3, e4⟩ := vt_log h hv (.inl ho)
    have e : stkM (o, A, B) S mem = pr (pr S.stk) ++ [bits .and .i64 (pv S.stk) (pv (pr S.stk))] := by subst ho; kernel_rfl
    rw [e, e1, pv_app2, pr_app2, pv_app, pr_app]
    exact ⟨e4 _ (bits01 e2 e3).1, fun h => by omega, fun _ => by simp⟩
  · obtain ⟨r, x, y, e1, e2, e3, e4⟩ := vt_log h hv (.inr ho)
    have e : stkM (o, A, B) S mem = pr (pr S.stk) ++ [bits .or .i64 (pv S.stk) (pv (pr S.stk))] := by subst ho; kernel_rfl
    rw [e, e1, pv_app2, pr_app2, pv_app, pr_app]
    exact ⟨e4 _ (bits01 e2 e3).2, fun h => by omega, fun _ => by simp⟩
  · have e : stkM (o, A, B) S mem = S.stk := by subst ho; kernel_rfl
    rw [e]
    exact ⟨vt_cast h hv ho, fun h => by omega, fun h => by omega⟩
  · exact in_ (S.loc.getD A.toNat 0) (by omega) (by subst ho; kernel_rfl)
  · exact out (by omega)
  · exact in_ (S.ret.getD A.toNat 0) (by omega) (by subst ho; kernel_rfl)
  · exact out (by omega)
  · exact in_ (S.inp.getD A.toNat 0) (by omega) (by subst ho; kernel_rfl)
  · exact out (by omega)
  · exact in_ ((mem.getD A.toNat z8).getD B.toNat 0) (by omega) (by subst ho; kernel_rfl)
  · exact out (by omega)
  · exact no (by omega) (by subst ho; kernel_rfl)
  · exact out (by omega)
  · exact no (by omega) (by subst ho; kernel_rfl)
  · exact no (by omega) (by subst ho; kernel_rfl)
  · exact no (by omega) (by subst ho; kernel_rfl)
  · exact no (by omega) (by subst ho; kernel_rfl)
  · exact no (by omega) (by subst ho; kernel_rfl)
theorem Ok.len {l : List Ins} {m h : List Int} {st : List ByteArray} (hR : Row l m h st) {s : MS} {i : Nat} {rs : List (Nat × Int)} (hO : Ok l m st s i rs) : s.stk.length ≤ 16 ∧ s.rds.length ≤ 200 ∧ l.length ≤ 200 := by
  have h1 := hO.vt.len
  have h2 := hR.stk.sz i
  have h3 := hR.fine.len
  have h4 : rs.length ≤ i := by
    have e : (rs.map (·.1)).length = rs.length := List.length_map _
    rw [← e, hO.lps]
    unfold Go.Proofs.Dk.lps
    exact Nat.le_trans (List.length_filter_le _ _) (by rw [List.length_range]; exact Nat.le_refl _)
  have h5 := hO.lt
  rw [hO.rds, List.length_map]
  omega
theorem step_is {l : List Ins} {m h : List Int} {st : List ByteArray} (hR : Row l m h st) {s : MS} {i : Nat} {rs : List (Nat × Int)} (hO : Ok l m st s i rs) (n : Nat) (mem : MemT) : stepIs n l m (l.getD i (0, 0, 0)) (m.getD i 0) s mem := by
  obtain ⟨hstk, hrl, hl⟩ := hO.len hR
  have hi := hO.lt
  have hF := hR.fine
  have hr := hF.right hi
  have hok := hR.stk.ok i hi
  have hlast : opAt l i = 22 → ∃ (k : Nat) (r0 : List Int) (r : Int), m.getD i 0 = (k : Int) ∧ k < i ∧ s.rds = r0 ++ [r] ∧ 1 ≤ r ∧ r ≤ 1000 ∧ r0.length ≤ 200 := fun h22 => by
    obtain ⟨k, a1, a2, a3, a4, a5, a6, a7⟩ := lps_next hF hi h22
    have e := hO.lps
    rw [a5] at e
    obtain ⟨rs0, rs1, e1, e2, e3⟩ := List.map_eq_append_iff.1 e
    obtain ⟨q, e4, e5⟩ := List.map_eq_singleton_iff.1 e3
    have hb := hO.rnd q (by rw [e1, e4]; simp)
    have hA := arg21 (hF.right (show k < l.length by omega)) a3
    rw [e5] at hb
    refine ⟨k, rs0.map (·.2), q.2, a1, a2, by rw [hO.rds, e1, e4]; simp, hb.1, by omega, ?_⟩
    have := hrl
    rw [hO.rds, e1, e4] at this
    simp at this ⊢
    omega
  have hv := vt_step (o := (l.getD i (0, 0, 0)).1) (A := (l.getD i (0, 0, 0)).2.1) (B := (l.getD i (0, 0, 0)).2.2) (S := s) (mem := mem) hr hok hO.vt
  have d1 := hv.2.1
  have d2 := hv.2.2
  have hp := hO.place
  clear hv hok hO
  unfold opAt at hlast
  generalize hx : l.getD i (0, 0, 0) = x at hr d1 d2 hlast
  obtain ⟨o, A, B⟩ := x
  obtain ⟨ret, at_, stk, loc, inp, out, set, rds, held, flt, stp⟩ := s
  simp only at hstk hrl d1 d2 hp hlast
  subst hp
  rcases op_cases (right_op hr) with rfl | rfl | rfl | rfl | rfl | rfl | rfl | rfl | rfl | rfl | rfl | rfl | rfl | rfl | rfl | rfl | rfl | rfl | rfl | rfl | rfl | rfl | rfl | rfl | rfl
  · exact sm1 n hl hi hx hr hstk
  · exact sm2 n hl hi hx hr hstk (d1 (by decide))
  · exact sm3 n hl hi hx hr hstk (d1 (by decide))
  · exact sm4 n hl hi hx hr hstk (d2 (by decide))
  · exact sm5 n hl hi hx hr hstk (d2 (by decide))
  · exact sm6 n hl hi hx hr hstk (d1 (by decide))
  · exact sm7 n hl hi hx hr hstk (d1 (by decide))
  · exact sm8 n hl hi hx hr hstk (d2 (by decide))
  · exact sm9 n hl hi hx hr hstk (d2 (by decide))
  · exact sm10 n hl hi hx hr hstk
  · exact sm11 n hl hi hx hr hstk
  · exact sm12 n hl hi hx hr hstk (d1 (by decide))
  · exact sm13 n hl hi hx hr hstk
  · exact sm14 n hl hi hx hr hstk (d1 (by decide))
  · exact sm15 n hl hi hx hr hstk
  · exact sm16 n hl hi hx hr hstk (d1 (by decide))
  · exact sm17 n hl hi hx hr hstk
  · exact sm18 n hl hi hx hr hstk (d1 (by decide))
  · exact sm19 n hl hi hx hr hstk
  · exact sm20 n hl hi hx hr hstk (d1 (by decide))
  · exact sm21 n hl hi hx hr hstk hrl
  · obtain ⟨k, r0, r, e1, e2, e3, e4, e5, e6⟩ := hlast rfl
    exact sm22 n hl hi hx hr hstk e3 ⟨e4, e5⟩ e6 hF.nest.hm e1 e2 rfl
  · exact sm23 n hl hi hx hr hstk
  · exact sm24 n hl hi hx hr hstk
  · exact sm25 n hl hi hx hr hstk
end Go.Proofs.Dk

/- Plain: where a machine's step goes. -/
namespace Go.Proofs.Dk
open Go
set_option maxRecDepth 100000
set_option linter.unusedVariables false
set_option linter.unusedSimpArgs false
theorem bit1_is {A : Int} {a : Nat} (h : A = (a : Int)) (ha : a ≤ 7) : bit1 A = ((2 ^ a : Nat) : Int) := by
  subst h
  exact shl_small ha
theorem andNot_is (v a : Nat) (hv : v < 256) (ha : a ≤ 7) : ∃ w : Nat, bits .andNot .i64 (v : Int) ((2 ^ a : Nat) : Int) = (w : Int) ∧ w < 256 ∧ ∀ b, w.testBit b = (v.testBit b && decide (b ≠ a)) := by
  have h2 : 2 ^ a < 2 ^ 8 := Nat.pow_lt_pow_right (by omega) (by omega)
  have key : bits .andNot .i64 (v : Int) ((2 ^ a : Nat) : Int) = IntKind.i64.wrap (((BitVec.ofInt 64 (v : Int)) &&& ~~~ (BitVec.ofInt 64 ((2 ^ a : Nat) : Int))).toNat : Int) := rfl
  have hw : ∀ b, ((BitVec.ofInt 64 (v : Int)) &&& ~~~ (BitVec.ofInt 64 ((2 ^ a : Nat) : Int))).toNat.testBit b = (v.testBit b && decide (b ≠ a)) := fun b => by
    rw [BitVec.toNat_and, Nat.testBit_and, ofInt_u64 v (by omega)]
    by_cases hb : b < 64
    · rw [BitVec.testBit_toNat, BitVec.getLsbD_not, ← BitVec.testBit_toNat, ofInt_u64 _ (by omega), Nat.testBit_two_pow, decide_eq_true hb, Bool.true_and]
      congr 1
      by_cases hab : a = b
      · rw [decide_eq_true hab, decide_eq_false (by omega)]; rfl
      · rw [decide_eq_false hab, decide_eq_true (by omega)]; rfl
    · have : v.testBit b = false := Nat.testBit_lt_two_pow (Nat.lt_of_lt_of_le hv (by
        have := Nat.pow_le_pow_right (n := 2) (by decide) (show 8 ≤ b by omega)
        omega))
      rw [this, Bool.false_and, Bool.false_and]
  generalize hW : ((BitVec.ofInt 64 (v : Int)) &&& ~~~ (BitVec.ofInt 64 ((2 ^ a : Nat) : Int))).toNat = W at key hw
  have hlt : W < 256 := by
    have hle : W ≤ v := by
      rw [← hW, BitVec.toNat_and, ofInt_u64 v (by omega)]
      exact Nat.and_le_left
    omega
  refine ⟨W, ?_, hlt, hw⟩
  rw [key, wrap_id (by omega) (by omega)]
structure NextI (l : List Ins) (m : List Int) (st : List ByteArray) (i : Nat) (rs : List (Nat × Int)) (s' : MS) : Prop where
  ex : ∃ q rs', Ok l m st s' q rs' ∧ phi l m q rs' + 1 ≤ phi l m i rs
theorem mem_next {l : List Ins} {i : Nat} (h19 : opAt l i ≠ 19) (h25 : opAt l i ≠ 25) : i + 1 ∈ nextsI l i := by
  unfold nextsI
  rw [if_neg h19]
  split
  · exact List.mem_cons_self ..
  · exact List.mem_singleton.2 rfl
theorem go_plain {l : List Ins} {m h : List Int} {st : List ByteArray} (hR : Row l m h st) {s s' : MS} {i : Nat} {rs : List (Nat × Int)} (hO : Ok l m st s i rs) (h21 : opAt l i ≠ 21) (h22 : opAt l i ≠ 22) (h23 : opAt l i ≠ 23) (h24 : opAt l i ≠ 24) {q : Nat} (hq : q ∈ nextsI l i)
    (e1 : s'.at_ = (q : Int)) (e2 : VT (afterI (l.getD i (0, 0, 0)) (stL st i)).1 s'.stk) (e3 : s'.rds = s.rds) (e4 : s'.held = s.held) : NextI l m st i rs s' := by
  have hF := hR.fine
  have hi := hO.lt
  have hql := hF.next hi q hq
  have hlps : lps l m q = lps l m i ∧ ∀ v, HeldB l m i v → HeldB l m q v := by
    unfold nextsI at hq
    split at hq
    · rename_i h19
      rw [List.mem_singleton] at hq
      subst hq
      exact ⟨lps_jump hF hi (.inl h19), fun v hv => hv.jump hF hi (.inl h19)⟩
    · split at hq
      · rename_i h20
        rw [List.mem_cons, List.mem_singleton] at hq
        rcases hq with rfl | rfl
        · exact ⟨lps_plain hF hi h21 h22 h24, fun v hv => hv.plain hF hi h23 h22 h24⟩
        · exact ⟨lps_jump hF hi (.inr h20), fun v hv => hv.jump hF hi (.inr h20)⟩
      · split at hq
        · cases hq
        · rw [List.mem_singleton] at hq
          subst hq
          exact ⟨lps_plain hF hi h21 h22 h24, fun v hv => hv.plain hF hi h23 h22 h24⟩
  refine ⟨q, rs, ⟨e1, hql, ?_, by rw [hlps.1]; exact hO.lps, by rw [e3]; exact hO.rds, hO.rnd, ?_⟩, phi_on hF hi (nexts_gt hq) hO.lps⟩
  · rw [hR.stk.nx i hi q hq]
    exact e2
  · obtain ⟨v, v1, v2⟩ := hO.held
    exact ⟨v, e4.trans v1, hlps.2 v v2⟩
theorem step_next {l : List Ins} {m h : List Int} {st : List ByteArray} (hR : Row l m h st) {s : MS} {i : Nat} {rs : List (Nat × Int)} (hO : Ok l m st s i rs) (mem : MemT) (h25 : opAt l i ≠ 25) : NextI l m st i rs (stepM (l.getD i (0, 0, 0)) (m.getD i 0) s mem) := by
  have hi := hO.lt
  have hF := hR.fine
  have hr := hF.right hi
  have hok := hR.stk.ok i hi
  have hp := hO.place
  have hv := (vt_step (o := (l.getD i (0, 0, 0)).1) (A := (l.getD i (0, 0, 0)).2.1) (B := (l.getD i (0, 0, 0)).2.2) (S := s) (mem := mem) hr hok hO.vt).1
  have hx : l.getD i (0, 0, 0) = (opAt l i, argA l i, (l.getD i (0, 0, 0)).2.2) := rfl
  have hstk : VT (afterI (l.getD i (0, 0, 0)) (stL st i)).1 (stepM (l.getD i (0, 0, 0)) (m.getD i 0) s mem).stk := hv
  have hrds : opAt l i ≠ 21 → opAt l i ≠ 22 → (stepM (l.getD i (0, 0, 0)) (m.getD i 0) s mem).rds = s.rds := fun h1 h2 => by
    show rdsM _ _ = _
    unfold rdsM
    rw [if_neg h1, if_neg h2]
  have hheld : opAt l i ≠ 23 → opAt l i ≠ 24 → (stepM (l.getD i (0, 0, 0)) (m.getD i 0) s mem).held = s.held := fun h1 h2 => by
    show (if _ then _ else if _ then _ else _) = _
    rw [if_neg h1, if_neg h2]
  have hon : opAt l i ≠ 19 → opAt l i ≠ 20 → opAt l i ≠ 22 → (stepM (l.getD i (0, 0, 0)) (m.getD i 0) s mem).at_ = ((i + 1 : Nat) : Int) := fun h1 h2 h3 => by
    show nextM _ _ _ = _
    unfold nextM
    rw [if_neg h1, if_neg h2, if_neg h3, hp]
    rfl
  by_cases h22 : opAt l i = 22
  · obtain ⟨k, a1, a2, a3, a4, a5, a6, a7⟩ := lps_next hF hi h22
    obtain ⟨k', b1, b2, b3⟩ : ∃ k' : Nat, m.getD i 0 = (k' : Int) ∧ (∀ v, HeldB l m i v → HeldB l m (k' + 1) v) ∧ (∀ v, HeldB l m i v → HeldB l m (i + 1) v) := by
      refine ⟨k, a1, fun v hv => ?_, fun v hv => ?_⟩
      · obtain ⟨k2, c1, c2, c3⟩ := hv.next hF hi h22
        have : k = k2 := by rw [a1] at c1; omega
        rw [this]; exact c2
      · obtain ⟨k2, c1, c2, c3⟩ := hv.next hF hi h22
        exact c3
    have hkk : k = k' := by rw [a1] at b1; omega
    subst hkk
    obtain ⟨v, v1, v2⟩ := hO.held
    have e := hO.lps
    rw [a5] at e
    obtain ⟨rs0, rs1, e1, e2, e3⟩ := List.map_eq_append_iff.1 e
    obtain ⟨q, e4, e5⟩ := List.map_eq_singleton_iff.1 e3
    obtain ⟨qk, qr⟩ := q
    simp only at e5
    subst e5
    subst e4
    subst e1
    have hsr : s.rds = rs0.map (·.2) ++ [qr] := by rw [hO.rds]; simp
    have hb := hO.rnd (qk, qr) (by simp)
    have hph := phi_next hF hi a2 a3 a4 a5 e2 (r := qr)
    have hst22 := hR.stk.nt i hi h22
    rw [a1, Int.toNat_natCast] at hst22
    -- the types ahead of the loop's first instruction are those of its Next
    have hgo : stL st (qk + 1) = (afterI (l.getD qk (0, 0, 0)) (stL st i)).1 := by
      rw [hR.stk.nx qk (by omega) (qk + 1) (mem_next (by rw [a3]; decide) (by rw [a3]; decide)), hst22]
    have hx22 : l.getD i (0, 0, 0) = (22, argA l i, (l.getD i (0, 0, 0)).2.2) := by rw [← h22]
    have hst : (stepM (l.getD i (0, 0, 0)) (m.getD i 0) s mem).stk = s.stk := by
      have e : ∀ A B, stkM (22, A, B) s mem = s.stk := fun A B => by kernel_rfl
      show stkM (l.getD i (0, 0, 0)) s mem = _
      rw [hx22, e]
    by_cases hq : qr - 1 > 0
    · refine ⟨qk + 1, rs0 ++ [(qk, qr - 1)], ⟨?_, by omega, ?_, ?_, ?_, ?_, v, (hheld (by omega) (by omega)).trans v1, b2 v v2⟩, hph.1⟩
      · show nextM _ _ _ = _
        unfold nextM
        rw [if_neg (show ¬ opAt l i = 19 by omega), if_neg (show ¬ opAt l i = 20 by omega), if_pos h22, hsr, pv_app, if_pos hq, a1]
        rfl
      · rw [hst, hgo]
        have hr2 := hF.right (show qk < l.length by omega)
        have hok2 := hR.stk.ok qk (by omega)
        rw [hst22] at hok2
        exact vt_no (o := (l.getD qk (0, 0, 0)).1) (A := (l.getD qk (0, 0, 0)).2.1) (B := (l.getD qk (0, 0, 0)).2.2) hok2 hO.vt (.inr (.inl a3))
      · rw [a6]; simp [e2]
      · show rdsM _ _ = _
        unfold rdsM
        rw [if_neg (show ¬ opAt l i = 21 by omega), if_pos h22, hsr, pv_app, pr_app, if_pos hq]
        simp
      · intro e he
        rw [List.mem_append, List.mem_singleton] at he
        rcases he with he | he
        · exact hO.rnd e (List.mem_append_left _ he)
        · subst he
          exact ⟨by show 1 ≤ qr - 1; omega, by have := hb.2; show qr - 1 ≤ argA l qk; simp only at this; omega⟩
    · have hq1 : qr = 1 := by have := hb.1; simp only at this; omega
      have hnx := mem_next (l := l) (i := i) (by omega) h25
      refine ⟨i + 1, rs0, ⟨?_, hF.next hi _ hnx, ?_, ?_, ?_, fun e he => hO.rnd e (List.mem_append_left _ he), v, (hheld (by omega) (by omega)).trans v1, b3 v v2⟩, hph.2 hq1⟩
      · show nextM _ _ _ = _
        unfold nextM
        rw [if_neg (show ¬ opAt l i = 19 by omega), if_neg (show ¬ opAt l i = 20 by omega), if_pos h22, hsr, pv_app, if_neg hq, hp]
        rfl
      · rw [hR.stk.nx i hi _ hnx]
        exact hstk
      · rw [a7]; exact e2
      · show rdsM _ _ = _
        unfold rdsM
        rw [if_neg (show ¬ opAt l i = 21 by omega), if_pos h22, hsr, pv_app, pr_app, if_neg hq]
  by_cases h21 : opAt l i = 21
  · have hnx := mem_next (l := l) (i := i) (by omega) h25
    obtain ⟨v, v1, v2⟩ := hO.held
    refine ⟨i + 1, rs ++ [(i, argA l i)], ⟨hon (by omega) (by omega) h22, hF.next hi _ hnx, ?_, ?_, ?_, ?_, v, (hheld (by omega) (by omega)).trans v1, v2.plain hF hi (by omega) h22 (by omega)⟩, phi_loop hF hi hO.lps⟩
    · rw [hR.stk.nx i hi _ hnx]; exact hstk
    · rw [lps_loop hF hi h21]; simp [hO.lps]
    · show rdsM _ _ = _
      unfold rdsM
      rw [if_pos h21, hO.rds, List.map_append]
      rfl
    · intro e he
      rw [List.mem_append, List.mem_singleton] at he
      rcases he with he | he
      · exact hO.rnd e he
      · subst he
        exact ⟨(arg21 hr h21).1, Int.le_refl _⟩
  by_cases h23 : opAt l i = 23
  · have hnx := mem_next (l := l) (i := i) (by omega) h25
    obtain ⟨v, v1, v2⟩ := hO.held
    obtain ⟨a, ha, ha7⟩ := argA_nat hr (.inl h23)
    refine ⟨i + 1, rs, ⟨hon (by omega) (by omega) h22, hF.next hi _ hnx, ?_, ?_, ?_, hO.rnd, v ||| 2 ^ a, ?_, v2.lockS hF hi h23 ha ha7⟩, phi_on hF hi (by omega) hO.lps⟩
    · rw [hR.stk.nx i hi _ hnx]; exact hstk
    · rw [lps_plain hF hi h21 h22 (by omega)]; exact hO.lps
    · rw [hrds h21 h22]; exact hO.rds
    · show (if _ then _ else if _ then _ else _) = _
      rw [if_pos h23, v1]
      show bits .or .i64 (v : Int) (bit1 (argA l i)) = _
      rw [bit1_is ha ha7]
      exact i64_or v (2 ^ a) v2.1 (by have := Nat.pow_lt_pow_right (a := 2) (by omega) (show a < 8 by omega); omega)
  by_cases h24 : opAt l i = 24
  · have hnx := mem_next (l := l) (i := i) (by omega) h25
    obtain ⟨v, v1, v2⟩ := hO.held
    have h0 := right8 (o := (l.getD i (0, 0, 0)).1) (A := (l.getD i (0, 0, 0)).2.1) (B := (l.getD i (0, 0, 0)).2.2) (by rw [show (l.getD i (0, 0, 0)).1 = 24 from h24]; omega) hr
    obtain ⟨a, ha, ha7⟩ : ∃ a : Nat, argA l i = (a : Int) ∧ a ≤ 7 := ⟨(argA l i).toNat, by unfold argA; omega, by unfold argA; omega⟩
    obtain ⟨w, w1, w2, w3⟩ := andNot_is v a v2.1 ha7
    refine ⟨i + 1, rs, ⟨hon (by omega) (by omega) h22, hF.next hi _ hnx, ?_, ?_, ?_, hO.rnd, w, ?_, v2.unlock hF hR.rise hi h24 ha w2 w3⟩, phi_on hF hi (by omega) hO.lps⟩
    · rw [hR.stk.nx i hi _ hnx]; exact hstk
    · rw [lps_unlock hF hi h24]; exact hO.lps
    · rw [hrds h21 h22]; exact hO.rds
    · show (if _ then _ else if _ then _ else _) = _
      rw [if_neg h23, if_pos h24, v1]
      show bits .andNot .i64 (v : Int) (bit1 (argA l i)) = _
      rw [bit1_is ha ha7]
      exact w1
  have key := fun {q : Nat} (hq : q ∈ nextsI l i) (e1 : (stepM (l.getD i (0, 0, 0)) (m.getD i 0) s mem).at_ = (q : Int)) => go_plain hR hO h21 h22 h23 h24 hq e1 hstk (hrds h21 h22) (hheld h23 h24)
  by_cases h19 : opAt l i = 19
  · have hj := rightJ (o := (l.getD i (0, 0, 0)).1) (A := (l.getD i (0, 0, 0)).2.1) (B := (l.getD i (0, 0, 0)).2.2) (.inl h19) hr
    refine key (q := jumpTo l i) (by unfold nextsI; rw [if_pos h19]; exact List.mem_singleton.2 rfl) ?_
    show nextM _ _ _ = _
    unfold nextM jumpTo
    rw [if_pos h19, hp]
    omega
  by_cases h20 : opAt l i = 20
  · have hj := rightJ (o := (l.getD i (0, 0, 0)).1) (A := (l.getD i (0, 0, 0)).2.1) (B := (l.getD i (0, 0, 0)).2.2) (.inr h20) hr
    by_cases hz : pv s.stk = 0
    · refine key (q := jumpTo l i) (by unfold nextsI; rw [if_neg h19, if_pos h20]; simp) ?_
      show nextM _ _ _ = _
      unfold nextM jumpTo
      rw [if_neg h19, if_pos h20, if_pos hz, hp]
      omega
    · refine key (q := i + 1) (by unfold nextsI; rw [if_neg h19, if_pos h20]; simp) ?_
      show nextM _ _ _ = _
      unfold nextM
      rw [if_neg h19, if_pos h20, if_neg hz, hp]
      rfl
  · exact key (q := i + 1) (mem_next h19 h25) (hon h19 h20 h22)
end Go.Proofs.Dk

/- Plain: what the Vm laws have in common. -/
namespace Go.Proofs.Dk
open Go
set_option maxRecDepth 100000
set_option linter.unusedVariables false
set_option linter.unusedSimpArgs false
theorem it_ex {X R : Type} {S : (X → Option R) → X → Option R} (Q : Nat → X → Prop) (P : R → Prop) (h0 : ∀ x, ¬ Q 0 x) (h : ∀ f x F, (∀ y, Q f y → ∃ r, F y = some r ∧ P r) → Q (f + 1) x → ∃ r, S F x = some r ∧ P r) : ∀ f x, Q f x → ∃ r, it S f x = some r ∧ P r
  | 0, x, hq => absurd hq (h0 x)
  | f + 1, x, hq => h f x (it S f) (it_ex Q P h0 h f) hq
theorem known8 : camshaftlaw08_known.f 30000 = some true := by kernel_rfl
abbrev z16 : List Int := [0, 0, 0, 0, 0, 0, 0, 0, 0, 0, 0, 0, 0, 0, 0, 0]
abbrev startS (ret inp : List Int) : MS := ⟨ret, 0, [], z8, inp, z16, 0, [], 0, 0, 0⟩
theorem start_ok {l : List Ins} {m h : List Int} {st : List ByteArray} (hR : Row l m h st) (ret inp : List Int) : Ok l m st (startS ret inp) 0 [] := by
  have hl := hR.fine.len
  refine ⟨rfl, by omega, ?_, rfl, rfl, (fun e he => by cases he), 0, rfl, by omega, fun b => ?_⟩
  · rw [hR.stk.z]
    exact trivial
  · rw [Nat.zero_testBit]
    exact ⟨(fun h => by cases h), fun ⟨k, k1, _⟩ => by have := (enc_open k1).1; omega⟩
theorem start_is (n : Nat) {l : List Ins} (hl : 0 < l.length) (m ret inp : List Int) (at_ : Int) (stk loc inp2 out : List Int) (set : Int) (rds : List Int) (held flt stp : Int) :
    vm_Machine_Start.f n inp l m ret false at_ stk loc inp2 out set rds held flt stp = some (0, l, m, ret, true, 0, [], z8, inp, z16, 0, [], 0, 0, 0) := by
  unfold vm_Machine_Start.f
  rw [decide_eq_true (show (l.length : Int) > 0 by omega), if_neg (by decide), if_neg (by decide)]
theorem cap_ok {l : List Ins} (h : l.length ≤ 200) : (decide (0 = 0) && decide (0 = 0) && decide (l.length * 24 ≤ 140737488355328) && decide (1 ≤ 24)) = true := by simp; omega
end Go.Proofs.Dk

/- Plain: a machine's outputs; blocks that are held. -/
namespace Go.Proofs.Dk
open Go
set_option maxRecDepth 100000
set_option linter.unusedVariables false
set_option linter.unusedSimpArgs false
def setB (set : Int) (k : Nat) : Bool := bits .and .i64 (set.fdiv (2 ^ (min ((k : Int)).toNat 64))) 1 == 1
def outsF (out : List Int) (set : Int) : Nat → Nat → List (Int × Int)
  | 0, _ => []
  | r + 1, k => (if setB set k = true then [((k : Int), out.getD k 0)] else []) ++ outsF out set r (k + 1)
def outsI (out : List Int) (set : Int) : List (Int × Int) := outsF out set 16 0
theorem outs_is (n : Nat) (hn : 16 < n) (l : List Ins) (m ret : List Int) (on : Bool) (at_ : Int) (stk loc inp out : List Int) (set : Int) (rds : List Int) (held flt stp : Int) :
    vm_Machine_Outs.f n l m ret on at_ stk loc inp out set rds held flt stp = some (outsI out set, l, m, ret, on, at_, stk, loc, inp, out, set, rds, held, flt, stp) := by
  unfold vm_Machine_Outs.f
  have key : ∃ r, vm_Machine_Outs.b0.l n ([], out, 0, l, m, ret, on, at_, stk, loc, inp, out, set, rds, held, flt, stp) = some r ∧ r = (outsI out set, l, m, ret, on, at_, stk, loc, inp, out, set, rds, held, flt, stp) := by
    show ∃ r, it _ n _ = some r ∧ _
    refine it_ex (fun f x => ∃ (k : Nat) (o : List (Int × Int)), k ≤ 16 ∧ 16 < f + k ∧ o.length ≤ k ∧ o ++ outsF out set (16 - k) k = outsI out set ∧ x = (o, out, (k : Int), l, m, ret, on, at_, stk, loc, inp, out, set, rds, held, flt, stp)) _ (fun x ⟨k, o, h1, h2, _⟩ => by omega) ?_ n _ ⟨0, [], by omega, by omega, Nat.zero_le _, by unfold outsI; rw [List.nil_append, Nat.sub_zero], rfl⟩
    rintro f x F hF ⟨k, o, h1, h2, h3, h4, rfl⟩
    show ∃ r, vm_Machine_Outs.b0 n F o out (k : Int) l m ret on at_ stk loc inp out set rds held flt stp = some r ∧ _
    unfold vm_Machine_Outs.b0
    rcases Nat.lt_or_ge k 16 with hk | hk
    · rw [if_pos (decide_eq_true (by omega)), if_pos (by simp; omega), if_neg (by simp), next_ix (by omega)]
      rw [show 16 - k = (16 - (k + 1)) + 1 by omega] at h4
      unfold outsF setB at h4
      rw [Int.toNat_natCast] at h4
      rw [Int.toNat_natCast]
      by_cases hb : (bits .and .i64 (set.fdiv (2 ^ (min k 64))) 1 == 1) = true
      · rw [if_pos hb, if_pos (by simp; omega)]
        rw [if_pos hb] at h4
        exact hF _ ⟨k + 1, _, by omega, by omega, by simp; omega, by rw [List.append_assoc]; exact h4, rfl⟩
      · rw [if_neg hb]
        rw [if_neg hb, List.nil_append] at h4
        exact hF _ ⟨k + 1, o, by omega, by omega, by omega, h4, rfl⟩
    · have : k = 16 := by omega
      subst this
      rw [if_neg (by decide)]
      rw [Nat.sub_self] at h4
      unfold outsF at h4
      rw [List.append_nil] at h4
      subst h4
      exact ⟨_, rfl, rfl⟩
  obtain ⟨r, e1, e2⟩ := key
  subst e2
  rw [e1]
  rfl
end Go.Proofs.Dk

/- Plain: a machine that runs, and one that does not any more. -/
namespace Go.Proofs.Dk
open Go
set_option maxRecDepth 100000
set_option linter.unusedVariables false
set_option linter.unusedSimpArgs false
structure CS where
  on : Bool
  s : MS
  mem : MemT
noncomputable def step1 (l : List Ins) (m : List Int) (c : CS) : CS :=
  if c.on = true then ⟨decide ((l.getD c.s.at_.toNat (0, 0, 0)).1 ≠ 25), stepM (l.getD c.s.at_.toNat (0, 0, 0)) (m.getD c.s.at_.toNat 0) c.s c.mem, memM (l.getD c.s.at_.toNat (0, 0, 0)) c.s c.mem⟩ else c
def COk (l : List Ins) (m : List Int) (st : List ByteArray) (c : CS) : Prop := c.on = true → ∃ i rs, Ok l m st c.s i rs
abbrev tupC (l : List Ins) (m : List Int) (c : CS) := tupM l m c.on c.s c.mem
theorem cstep {l : List Ins} {m h : List Int} {st : List ByteArray} (hR : Row l m h st) {c : CS} (hc : COk l m st c) (n : Nat) : (∃ ev e, stepF n l m c.on c.s c.mem = some (ev, e, tupC l m (step1 l m c))) ∧ COk l m st (step1 l m c) := by
  obtain ⟨on, s, mem⟩ := c
  cases on with
  | false =>
    refine ⟨⟨(0, 0), 16, ?_⟩, fun h => by cases h⟩
    have hl := hR.fine.len
    unfold stepF vm_Machine_Step.f
    dsimp only
    rw [decide_eq_true (show (l.length : Int) > 0 by omega), if_neg (by decide), if_pos (by decide)]
    rfl
  | true =>
    obtain ⟨i, rs, hO⟩ := hc rfl
    have hp : s.at_ = (i : Int) := hO.place
    have e : s.at_.toNat = i := by rw [hp]; exact Int.toNat_natCast i
    have e1 : step1 l m ⟨true, s, mem⟩ = ⟨decide ((l.getD i (0, 0, 0)).1 ≠ 25), stepM (l.getD i (0, 0, 0)) (m.getD i 0) s mem, memM (l.getD i (0, 0, 0)) s mem⟩ := by
      unfold step1
      rw [if_pos rfl]
      dsimp only
      rw [e]
    rw [e1]
    refine ⟨⟨_, 0, step_is hR hO n mem⟩, fun h => ?_⟩
    have h25 : opAt l i ≠ 25 := of_decide_eq_true h
    obtain ⟨q, rs', hq, _⟩ := (step_next hR hO mem h25).ex
    exact ⟨q, rs', hq⟩
theorem outsF_len (out : List Int) (set : Int) : ∀ r k, (outsF out set r k).length ≤ r
  | 0, k => Nat.le_refl _
  | r + 1, k => by
    have := outsF_len out set r (k + 1)
    unfold outsF
    rw [List.length_append]
    split <;> simp <;> omega
theorem outsI_len (out : List Int) (set : Int) : (outsI out set).length ≤ 16 := outsF_len out set 16 0
end Go.Proofs.Dk

/- Plain: rows that stand behind others. -/
namespace Go.Proofs.Dk
open Go
set_option maxRecDepth 100000
set_option linter.unusedVariables false
set_option linter.unusedSimpArgs false
def shO (p : Nat) (e : Int × Ins) : Int × Ins := (e.1 + p, e.2)
theorem getD_setI {l : List Int} {i j : Nat} {v : Int} (hi : i < l.length) : (l.set i v).getD j 0 = if j = i then v else l.getD j 0 := by
  rw [List.getD_eq_getElem?_getD, List.getElem?_set]
  by_cases e : i = j
  · rw [if_pos e, if_pos e.symm, if_pos (by omega)]; rfl
  · rw [if_neg e, if_neg (fun h => e h.symm), List.getD_eq_getElem?_getD]
theorem getD_set3 {l : List Int} {i k j : Nat} {u v w : Int} (hi : i < l.length) (hk : k < l.length) : (((l.set i u).set i v).set k w).getD j 0 = if j = k then w else if j = i then v else l.getD j 0 := by
  rw [getD_setI (by rw [List.length_set, List.length_set]; exact hk), getD_setI (by rw [List.length_set]; exact hi), getD_setI hi]
  by_cases e : j = i
  · rw [if_pos e, if_pos e]
  · rw [if_neg e, if_neg e, if_neg e]
theorem scan_off {l l' : List Ins} {p L : Nat} (hag : ∀ i, i < L → l'.getD (i + p) (0, 0, 0) = l.getD i (0, 0, 0)) (hL : L ≤ l.length) (hL' : L + p ≤ l'.length) (op0 : List (Int × Ins)) : ∀ (r i : Nat) {m h m1 h1 m' h' : List Int} {op op1 : List (Int × Ins)}, ScanI l i m h op → i + r ≤ L → m'.length = l'.length → (∀ j, j < i → m.getD j 0 ≠ -1 → m'.getD (j + p) 0 = m.getD j 0 + p) → scanS l r i m h op = some (m1, h1, op1) →
    ∃ m1' h1', scanS l' r (i + p) m' h' (op0 ++ op.map (shO p)) = some (m1', h1', op0 ++ op1.map (shO p)) ∧ m1'.length = l'.length ∧ (∀ j, j < i + r → m1.getD j 0 ≠ -1 → m1'.getD (j + p) 0 = m1.getD j 0 + p) ∧ (∀ j, j < p → m1'.getD j 0 = m'.getD j 0) ∧ ScanI l (i + r) m1 h1 op1
  | 0, i, m, h, m1, h1, m', h', op, op1, hI, hi, hm', hM, hs => by
    simp only [scanS, Option.some.injEq, Prod.mk.injEq] at hs
    obtain ⟨rfl, rfl, rfl⟩ := hs
    exact ⟨m', h', rfl, hm', hM, fun j hj => rfl, hI⟩
  | r + 1, i, m, h, m1, h1, m', h', op, op1, hI, hi, hm', hM, hs => by
    have hil : i < l.length := by omega
    have hstep0 : ∃ q, scanStep (l.getD i (0, 0, 0)) i m h op = some q ∧ scanS l r (i + 1) q.1 q.2.1 q.2.2 = some (m1, h1, op1) := by
      unfold scanS at hs
      split at hs
      · rename_i a b c hq
        exact ⟨_, hq, hs⟩
      · cases hs
    obtain ⟨⟨m2, h2, op2⟩, hq, hs2⟩ := hstep0
    have hI2 := hI.step hil hq
    have hmlen := hI.hm
    have hgo : ∃ m2' h2', scanStep (l'.getD (i + p) (0, 0, 0)) (i + p) m' h' (op0 ++ op.map (shO p)) = some (m2', h2', op0 ++ op2.map (shO p)) ∧ m2'.length = l'.length ∧ (∀ j, j < i + 1 → m2.getD j 0 ≠ -1 → m2'.getD (j + p) 0 = m2.getD j 0 + p) ∧ (∀ j, j < p → m2'.getD j 0 = m'.getD j 0) := by
      rw [hag i (by omega)]
      have hset : ∀ j, j < i + 1 → (m.set i (-1)).getD j 0 ≠ -1 → (m'.set (i + p) (-1)).getD (j + p) 0 = (m.set i (-1)).getD j 0 + p := fun j hj hn => by
        rw [getD_setI (by omega)] at hn ⊢
        rw [getD_setI (by omega)]
        by_cases e : j = i
        · rw [if_pos e] at hn; exact absurd rfl hn
        · rw [if_neg e] at hn ⊢
          rw [if_neg (by omega)]
          exact hM j (by omega) hn
      have hfr : ∀ j, j < p → (m'.set (i + p) (-1)).getD j 0 = m'.getD j 0 := fun j hj => by rw [getD_setI (by omega), if_neg (by omega)]
      unfold scanStep at hq ⊢
      simp only at hq ⊢
      by_cases h1 : (l.getD i (0, 0, 0)).1 = 21 ∨ (l.getD i (0, 0, 0)).1 = 23
      · rw [if_pos h1] at hq ⊢
        simp only [Option.some.injEq, Prod.mk.injEq] at hq
        obtain ⟨rfl, rfl, rfl⟩ := hq
        have eo : op0 ++ op.map (shO p) ++ [(((i + p : Nat) : Int), ends (l.getD i (0, 0, 0)))] = op0 ++ (op ++ [((i : Int), ends (l.getD i (0, 0, 0)))]).map (shO p) := by
          rw [List.map_append, ← List.append_assoc]
          simp [shO]
        rw [eo]
        exact ⟨_, _, rfl, by simp [hm'], hset, hfr⟩
      · rw [if_neg h1] at hq ⊢
        by_cases h2 : (l.getD i (0, 0, 0)).1 = 22 ∨ (l.getD i (0, 0, 0)).1 = 24
        · rw [if_pos h2] at hq ⊢
          by_cases h3 : op.length = 0
          · rw [if_pos h3] at hq; cases hq
          · rw [if_neg h3] at hq
            have hln : (op0 ++ op.map (shO p)).length - 1 = op0.length + (op.length - 1) := by simp; omega
            have hlast : (op0 ++ op.map (shO p)).getD ((op0 ++ op.map (shO p)).length - 1) (0, 0, 0, 0) = shO p (op.getD (op.length - 1) (0, 0, 0, 0)) := by
              rw [hln, List.getD_eq_getElem?_getD, List.getElem?_append_right (by omega), show op0.length + (op.length - 1) - op0.length = op.length - 1 by omega, List.getElem?_map, List.getD_eq_getElem?_getD, List.getElem?_eq_getElem (by omega)]
              rfl
            rw [if_neg (show ¬ (op0 ++ op.map (shO p)).length = 0 by rw [List.length_append, List.length_map]; omega), hlast]
            by_cases h4 : (op.getD (op.length - 1) (0, 0, 0, 0)).2 = l.getD i (0, 0, 0)
            · rw [if_pos h4] at hq
              rw [if_pos (show (shO p (op.getD (op.length - 1) (0, 0, 0, 0))).2 = _ from h4)]
              simp only [Option.some.injEq, Prod.mk.injEq] at hq
              obtain ⟨rfl, rfl, rfl⟩ := hq
              obtain ⟨k, k1, k2, k3, _⟩ := hI.at_ _ (last_mem (d := ((0 : Int), (0 : Int), (0 : Int), (0 : Int))) (show 0 < op.length by omega))
              have e1 : (shO p (op.getD (op.length - 1) (0, 0, 0, 0))).1 = ((k + p : Nat) : Int) := by
                show (op.getD (op.length - 1) (0, 0, 0, 0)).1 + (p : Int) = _
                rw [k2]; simp
              have eo : (op0 ++ op.map (shO p)).take ((op0 ++ op.map (shO p)).length - 1) = op0 ++ (op.take (op.length - 1)).map (shO p) := by
                rw [hln, List.take_length_add_append, ← List.map_take]
              rw [k2, e1, eo]
              simp only [Int.toNat_natCast]
              refine ⟨_, _, rfl, by simp [hm'], fun j hj hn => ?_, fun j hj => ?_⟩
              · rw [getD_set3 (by omega) (by omega)] at hn ⊢
                rw [getD_set3 (by omega) (by omega)]
                by_cases e : j = k
                · rw [if_pos e, if_pos (by omega)]; simp
                · rw [if_neg e] at hn ⊢
                  rw [if_neg (by omega)]
                  by_cases e2 : j = i
                  · rw [if_pos e2, if_pos (by omega)]; simp
                  · rw [if_neg e2] at hn ⊢
                    rw [if_neg (by omega)]
                    exact hM j (by omega) hn
              · rw [getD_set3 (by omega) (by omega), if_neg (by omega), if_neg (by omega)]
            · rw [if_neg h4] at hq; cases hq
        · rw [if_neg h2] at hq ⊢
          simp only [Option.some.injEq, Prod.mk.injEq] at hq
          obtain ⟨rfl, rfl, rfl⟩ := hq
          exact ⟨_, _, rfl, by simp [hm'], hset, hfr⟩
    obtain ⟨m2', h2', g1, g2, g3, g4⟩ := hgo
    obtain ⟨m1', h1', f1, f2, f3, f4, f5⟩ := scan_off hag hL hL' op0 r (i + 1) (m' := m2') (h' := h2') hI2 (by omega) g2 g3 hs2
    refine ⟨m1', h1', ?_, f2, fun j hj => f3 j (by omega), fun j hj => (f4 j hj).trans (g4 j hj), by rw [show i + (r + 1) = i + 1 + r by omega]; exact f5⟩
    show scanS l' (r + 1) (i + p) m' h' (op0 ++ op.map (shO p)) = _
    unfold scanS
    rw [g1]
    simp only
    rw [show i + p + 1 = i + 1 + p by omega]
    exact f1
theorem scanS_add {l : List Ins} : ∀ (r s i : Nat) (m h : List Int) (op : List (Int × Ins)), scanS l (r + s) i m h op = match scanS l r i m h op with | some (m, h, op) => scanS l s (i + r) m h op | none => none
  | 0, s, i, m, h, op => by rw [Nat.zero_add]; rfl
  | r + 1, s, i, m, h, op => by
    rw [show r + 1 + s = (r + s) + 1 by omega]
    show (match scanStep (l.getD i (0, 0, 0)) i m h op with | some (m, h, op) => scanS l (r + s) (i + 1) m h op | none => none) = match (match scanStep (l.getD i (0, 0, 0)) i m h op with | some (m, h, op) => scanS l r (i + 1) m h op | none => none) with | some (m, h, op) => scanS l s (i + (r + 1)) m h op | none => none
    cases scanStep (l.getD i (0, 0, 0)) i m h op with
    | none => rfl
    | some q =>
      obtain ⟨a, b, c⟩ := q
      have := scanS_add (l := l) r s (i + 1) a b c
      rw [show i + 1 + r = i + (r + 1) by omega] at this
      exact this
structure Within (l l' : List Ins) (m m' : List Int) (p a z : Nat) : Prop where
  ins : ∀ i, a ≤ i → i < z → l'.getD (i + p) (0, 0, 0) = l.getD i (0, 0, 0)
  mat : ∀ i, a ≤ i → i < z → opAt l i = 21 → mN m' (i + p) = mN m i + p
end Go.Proofs.Dk

/- Plain: rows one behind the other, a loop around a row. -/
namespace Go.Proofs.Dk
open Go
set_option maxRecDepth 100000
set_option linter.unusedVariables false
set_option linter.unusedSimpArgs false
theorem scanI_ok {l : List Ins} (h : (scanI l).2.2 = 0) : ∃ m hh, scanS l l.length 0 (List.replicate l.length 0) (List.replicate l.length 0) [] = some (m, hh, []) ∧ (scanI l).1 = m := by
  have hr := (scanI_nest h).row
  unfold scanI at h ⊢
  rw [if_pos hr] at h ⊢
  cases hs : scanS l l.length 0 (List.replicate l.length 0) (List.replicate l.length 0) [] with
  | none => rw [hs] at h; cases h
  | some q =>
    obtain ⟨m, hh, op⟩ := q
    rw [hs] at h
    simp only at h ⊢
    by_cases h0 : 0 < op.length
    · rw [if_pos h0] at h; cases h
    · rw [if_neg h0]
      have : op = [] := List.length_eq_zero_iff.1 (by omega)
      subst this
      exact ⟨m, hh, rfl, rfl⟩
theorem scan_init {l : List Ins} {m hh : List Int} (hl : 0 < l.length) (he : opAt l (l.length - 1) = 25) (hs : scanS l l.length 0 (List.replicate l.length 0) (List.replicate l.length 0) [] = some (m, hh, [])) : ∃ m1 h1, scanS l (l.length - 1) 0 (List.replicate l.length 0) (List.replicate l.length 0) [] = some (m1, h1, []) ∧ m1.length = l.length ∧ m = m1.set (l.length - 1) (-1) := by
  have e : l.length = (l.length - 1) + 1 := by omega
  have hs2 := hs
  rw [show scanS l l.length 0 (List.replicate l.length 0) (List.replicate l.length 0) [] = scanS l ((l.length - 1) + 1) 0 (List.replicate l.length 0) (List.replicate l.length 0) [] by rw [← e], scanS_add] at hs2
  cases hq : scanS l (l.length - 1) 0 (List.replicate l.length 0) (List.replicate l.length 0) [] with
  | none => rw [hq] at hs2; cases hs2
  | some q =>
    obtain ⟨m1, h1, op⟩ := q
    rw [hq] at hs2
    have hst : scanStep (l.getD (l.length - 1) (0, 0, 0)) (l.length - 1) m1 h1 op = some (m1.set (l.length - 1) (-1), (if 0 < op.length then (h1.set (l.length - 1) (-1)).set (l.length - 1) (op.getD (op.length - 1) (0, 0, 0, 0)).1 else h1.set (l.length - 1) (-1)), op) := by
      unfold scanStep
      have h25 : (l.getD (l.length - 1) (0, 0, 0)).1 = 25 := he
      simp only [h25]
      rw [if_neg (by decide), if_neg (by decide)]
    have hs3 : scanS l 1 (l.length - 1) m1 h1 op = some (m, hh, []) := by
      have : 0 + (l.length - 1) = l.length - 1 := by omega
      rw [this] at hs2
      exact hs2
    unfold scanS at hs3
    rw [hst] at hs3
    simp only [scanS, Option.some.injEq, Prod.mk.injEq] at hs3
    obtain ⟨a1, a2, a3⟩ := hs3
    subst a3
    have hL := (scan_off (l := l) (l' := l) (p := 0) (L := l.length) (fun i hi => rfl) (Nat.le_refl _) (Nat.le_refl _) [] (l.length - 1) 0 (m' := List.replicate l.length 0) (h' := List.replicate l.length 0) (ScanI.start l) (by omega) (by simp) (fun j hj => by omega) hq)
    obtain ⟨_, _, _, _, _, _, hI⟩ := hL
    exact ⟨m1, h1, rfl, hI.hm, a1.symm⟩
theorem Fine.mat {l : List Ins} {m h : List Int} (hF : Fine l m h) {i : Nat} (hi : i < l.length) (e : opAt l i = 21) : m.getD i 0 = ((mN m i : Nat) : Int) ∧ m.getD i 0 ≠ -1 := by
  obtain ⟨j, j1, j2, j3⟩ := hF.nest.open_ i hi (isOpen_iff.2 (.inl e))
  unfold mN
  rw [j1]
  exact ⟨rfl, by omega⟩
end Go.Proofs.Dk
