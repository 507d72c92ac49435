/- VmParts: for every input the call returns true, and each argument reads afterwards as it read before. No condition. -/
import Derived.Test.YtfppdlcgipnacaaMB5
import Derived.Test.YtfppdlcgipnacaaMB4
import Derived.Test.YtfppdlcgipnacaaMB2
import Derived.Test.YtfppdlcgipnacaaRows
import Derived.WalkKit
import Derived.ProofKit
import Derived.OpenShut
import Derived.ShutString
import Derived.ChangeOld
import Derived.Below
import Derived.SizedLaws
/- Plain: one row without its End, and another one behind it. -/
namespace Go.Proofs.Dk
open Go
set_option maxRecDepth 100000
set_option linter.unusedVariables false
set_option linter.unusedSimpArgs false
theorem neB_self (a : ByteArray) : neB a a = false := by
  unfold neB
  rw [beq_self_eq_true]
  rfl
theorem conv_hand {l : List Ins} {st : List ByteArray} {f : Flow} (hI : FlowI l f) (h1 : ∀ k, soF f k = true → stF f k = stL st k) (h2 : ∀ k, clF f k = false) {q : Nat} (hq : q < l.length) {t : ByteArray} (ht : stL st q = t) :
    (∀ k, soF (handI q t f) k = true → stF (handI q t f) k = stL st k) ∧ (∀ k, clF (handI q t f) k = false) ∧ (∀ k, soF f k = true → soF (handI q t f) k = true) ∧ soF (handI q t f) q = true := by
  refine ⟨fun k hk => ?_, fun k => ?_, fun k hk => ?_, ?_⟩
  · rw [hand_st hI hq]
    rw [hand_so hI hq] at hk
    by_cases e : k = q
    · rw [if_pos e, e]; exact ht.symm
    · rw [if_neg e] at hk ⊢
      exact h1 k hk
  · rw [hand_cl hI hq]
    by_cases e : k = q
    · rw [if_pos e, h2 q, Bool.false_or]
      cases hs : soF f q
      · rfl
      · rw [h1 q hs, ht, neB_self]; rfl
    · rw [if_neg e]; exact h2 k
  · rw [hand_so hI hq]
    split
    · rfl
    · exact hk
  · rw [hand_so hI hq, if_pos rfl]
theorem conv_fold {l : List Ins} {st : List ByteArray} {t : ByteArray} (ht : t.size ≤ 16) : ∀ (ks : List Nat) {f : Flow}, FlowI l f → (∀ k, soF f k = true → stF f k = stL st k) → (∀ k, clF f k = false) → (∀ q ∈ ks, q < l.length ∧ stL st q = t) →
    (∀ k, soF (ks.foldl (fun g k => handI k t g) f) k = true → stF (ks.foldl (fun g k => handI k t g) f) k = stL st k) ∧ (∀ k, clF (ks.foldl (fun g k => handI k t g) f) k = false) ∧ (∀ k, soF f k = true ∨ k ∈ ks → soF (ks.foldl (fun g k => handI k t g) f) k = true)
  | [], f, hI, h1, h2, hk => ⟨h1, h2, fun k hk => hk.elim id (fun h => by cases h)⟩
  | q :: ks, f, hI, h1, h2, hk => by
    have hq := hk q (List.mem_cons_self ..)
    obtain ⟨a1, a2, a3, a4⟩ := conv_hand hI h1 h2 hq.1 hq.2
    obtain ⟨b1, b2, b3⟩ := conv_fold ht ks (handI_ok hI q ht) a1 a2 (fun p hp => hk p (List.mem_cons_of_mem _ hp))
    refine ⟨b1, b2, fun k h => b3 k ?_⟩
    rcases h with h | h
    · exact .inl (a3 k h)
    · rcases List.mem_cons.1 h with h | h
      · subst h; exact .inl a4
      · exact .inr h
theorem conv_step {l : List Ins} {m h : List Int} {st : List ByteArray} (hF : Fine l m h) (hS : Stk l m st) (hC : Come l) : ∀ (r i : Nat) {f : Flow}, FlowI l f → (∀ k, soF f k = true → stF f k = stL st k) → (∀ k, clF f k = false) → soF f 0 = true → (∀ j, j < i → ∀ q ∈ nextsI l j, soF f q = true) → r + i = l.length → ∃ f', stacksS l m r i f = .inr f'
  | 0, i, f, _, _, _, _, _, _ => ⟨f, rfl⟩
  | r + 1, i, f, hI, h1, h2, h3, h4, hr => by
    have hi : i < l.length := by omega
    have hso : ∀ k, k ≤ i → soF f k = true := fun k hk => by
      rcases Nat.eq_zero_or_pos k with h0 | h0
      · subst h0; exact h3
      · obtain ⟨p, p1, p2⟩ := hC k h0 (by omega)
        exact h4 p (by omega) k p2
    have est := h1 i (hso i (Nat.le_refl _))
    have eok : aftE l f i = 0 := by unfold aftE; rw [est]; exact hS.ok i hi
    have haft : ∀ q ∈ nextsI l i, stL st q = aftO l f i := fun q hq => by unfold aftO; rw [est]; exact hS.nx i hi q hq
    have hstep : flowStep l m i f = .inr ((nextsI l i).foldl (fun g k => handI k (aftO l f i) g) f) := by
      unfold flowStep
      rw [if_neg (show ¬ f.2.1.getD i false = false by rw [show f.2.1.getD i false = true from hso i (Nat.le_refl _)]; decide), if_neg (show ¬ f.2.2.getD i false = true by rw [show f.2.2.getD i false = false from h2 i]; decide)]
      rw [if_neg (fun hc => by
        obtain ⟨k, k1, k2, _⟩ := hF.closed.cl i hi (.inl hc.1)
        have e1 := hS.nt i hi hc.1
        rw [k1, Int.toNat_natCast] at e1
        have e2 := hc.2
        rw [k1, Int.toNat_natCast] at e2
        rw [show f.1.getD k ByteArray.empty = stL st k from h1 k (hso k (by omega)), show f.1.getD i ByteArray.empty = stL st i from est, e1, neB_self] at e2
        cases e2)]
      rw [if_neg (fun hc => hc eok)]
    obtain ⟨b1, b2, b3⟩ := conv_fold (l := l) (st := st) (t := aftO l f i) (after_size _ _) (nextsI l i) hI h1 h2 (fun q hq => ⟨hF.next hi q hq, haft q hq⟩)
    unfold stacksS
    rw [hstep]
    exact conv_step hF hS hC r (i + 1) (flowStep_ok hI hstep) b1 b2 (b3 0 (.inl h3)) (fun j hj q hq => by
      by_cases e : j = i
      · subst e; exact b3 q (.inr hq)
      · exact b3 q (.inl (h4 j (by omega) q hq))) (by omega)
theorem stacks_conv {l : List Ins} (hw : wholeI l = 0) {st : List ByteArray} (hS : Stk l (scanI l).1 st) (hC : Come l) : stacksI l = 0 := by
  have hF := whole_fine hw
  have hl := hF.len
  unfold stacksI
  rw [if_neg (fun h => h hw)]
  have hz : ∀ k, stF (flow0 l) k = ByteArray.empty := fun k => by
    unfold flow0 stF
    simp only [List.getD_eq_getElem?_getD, List.getElem?_replicate]
    split <;> rfl
  have hso : ∀ k, soF (flow0 l) k = true → k = 0 := fun k hk => by
    unfold flow0 at hk
    rcases set_true hk with h2 | h2
    · rw [List.getD_eq_getElem?_getD, List.getElem?_replicate] at h2
      split at h2 <;> cases h2
    · exact h2
  have hcl : ∀ k, clF (flow0 l) k = false := fun k => by
    unfold flow0 clF
    simp only [List.getD_eq_getElem?_getD, List.getElem?_replicate]
    split <;> rfl
  have hs0 : soF (flow0 l) 0 = true := by
    unfold flow0 soF
    simp only
    rw [getD_set (by simp; omega), if_pos rfl]
  obtain ⟨f', hf⟩ := conv_step hF hS hC l.length 0 (flow0_ok l) (fun k hk => by rw [hso k hk, hz, hS.z]) hcl hs0 (fun j hj => by omega) (by omega)
  rw [hf]
structure Both (a b c : List Ins) (p : Nat) (ma mb mc : List Int) : Prop where
  len : c.length = p + b.length
  pa : a.length = p + 1
  ia : ∀ i, i < p → c.getD i (0, 0, 0) = a.getD i (0, 0, 0)
  ib : ∀ i, i < b.length → c.getD (i + p) (0, 0, 0) = b.getD i (0, 0, 0)
  mma : ∀ i, i < p → ma.getD i 0 ≠ -1 → mc.getD i 0 = ma.getD i 0
  mmb : ∀ i, i < b.length → mb.getD i 0 ≠ -1 → mc.getD (i + p) 0 = mb.getD i 0 + p
theorem both_scan {a b : List Ins} (sa : (scanI a).2.2 = 0) (ea : opAt a (a.length - 1) = 25) (sb : (scanI b).2.2 = 0) (hlen : a.length + b.length ≤ 200) :
    (scanI (a.take (a.length - 1) ++ b)).2.2 = 0 ∧ Both a b (a.take (a.length - 1) ++ b) (a.length - 1) (scanI a).1 (scanI b).1 (scanI (a.take (a.length - 1) ++ b)).1 := by
  obtain ⟨la, la2, ra⟩ := rowI_len (scanI_nest sa).row
  obtain ⟨lb, lb2, rb⟩ := rowI_len (scanI_nest sb).row
  generalize hc : a.take (a.length - 1) ++ b = c at *
  have hcl : c.length = a.length - 1 + b.length := by rw [← hc]; simp
  have ia : ∀ i, i < a.length - 1 → c.getD (i + 0) (0, 0, 0) = a.getD i (0, 0, 0) := fun i hi => by
    rw [← hc, List.getD_eq_getElem?_getD, Nat.add_zero, List.getElem?_append_left (by simp; omega), List.getElem?_take, if_pos hi, List.getD_eq_getElem?_getD]
  have ib : ∀ i, i < b.length → c.getD (i + (a.length - 1)) (0, 0, 0) = b.getD i (0, 0, 0) := fun i hi => by
    have e : (a.take (a.length - 1)).length = a.length - 1 := by simp
    rw [← hc, List.getD_eq_getElem?_getD, List.getElem?_append_right (by omega), e, Nat.add_sub_cancel, List.getD_eq_getElem?_getD]
  obtain ⟨ma, ha, s1, e1⟩ := scanI_ok sa
  obtain ⟨mb, hb, s2, e2⟩ := scanI_ok sb
  obtain ⟨m1, h1, t1, t2, t3⟩ := scan_init la ea s1
  obtain ⟨m1', h1', u1, u2, u3, u4, u5⟩ := scan_off (l := a) (l' := c) (p := 0) (L := a.length - 1) ia (by omega) (by omega) [] (a.length - 1) 0 (m' := List.replicate c.length 0) (h' := List.replicate c.length 0) (ScanI.start a) (by omega) (by simp) (fun j hj => by omega) t1
  obtain ⟨m2', h2', v1, v2, v3, v4, v5⟩ := scan_off (l := b) (l' := c) (p := a.length - 1) (L := b.length) ib (Nat.le_refl _) (by omega) [] b.length 0 (m' := m1') (h' := h1') (ScanI.start b) (by omega) u2 (fun j hj => by omega) s2
  have s3 : scanS c c.length 0 (List.replicate c.length 0) (List.replicate c.length 0) [] = some (m2', h2', []) := by
    rw [show scanS c c.length 0 (List.replicate c.length 0) (List.replicate c.length 0) [] = scanS c ((a.length - 1) + b.length) 0 (List.replicate c.length 0) (List.replicate c.length 0) [] by rw [← hcl], scanS_add]
    simp only [Nat.zero_add, Nat.add_zero, List.map_nil, List.append_nil] at u1 v1 ⊢
    rw [u1]
    simp only
    exact v1
  have hrow : rowI c = true := by
    unfold rowI
    rw [Bool.and_eq_true, Bool.and_eq_true, decide_eq_true_eq, decide_eq_true_eq, List.all_eq_true]
    refine ⟨fun x hx => ?_, by omega, by omega⟩
    rw [← hc, List.mem_append] at hx
    have key : ∀ {l : List Ins}, (∀ i, i < l.length → rightI (l.getD i (0, 0, 0)) = true) → ∀ x ∈ l, rightI x = true := fun h x hx => by
      obtain ⟨i, hi, e⟩ := List.getElem_of_mem hx
      have := h i hi
      rw [getD_in hi, e] at this
      exact this
    rcases hx with hx | hx
    · exact key ra x (List.mem_of_mem_take hx)
    · exact key rb x hx
  have hs : scanI c = (m2', h2', 0) := by
    unfold scanI
    rw [if_pos hrow, s3]
    rfl
  rw [hs]
  refine ⟨rfl, hcl, by omega, fun i hi => ia i hi, ib, fun i hi hn => ?_, fun i hi hn => ?_⟩
  · rw [e1] at hn ⊢
    have k3 : ma.getD i 0 = m1.getD i 0 := by rw [t3, getD_setI (by omega), if_neg (by omega)]
    have k4 := u3 i (by omega) (by rw [← k3]; exact hn)
    have k5 := v4 i hi
    rw [Nat.add_zero] at k4
    show m2'.getD i 0 = _
    rw [k5, k4, ← k3]
    omega
  · rw [e2] at hn ⊢
    exact v3 i (by omega) hn
theorem ends25 {l : List Ins} {m h : List Int} (hF : Fine l m h) {i : Nat} (hi : i < l.length) : opAt l i = 25 ↔ i + 1 = l.length := by
  constructor
  · intro h25
    have h1 := hF.ends i hi
    unfold endQ at h1
    rw [show ((l.getD i (0, 0, 0)).1 == 25) = true from beq_iff_eq.2 h25] at h1
    cases h4 : ((i : Int) == ((l.length - 1 : Nat) : Int))
    · rw [h4] at h1; cases h1
    · have := eq_of_beq h4; omega
  · intro h
    have := hF.last
    rw [show l.length - 1 = i by omega] at this
    exact this
theorem endQ_of {l : List Ins} {i : Nat} (hi : i < l.length) (h : opAt l i = 25 ↔ i + 1 = l.length) : endQ l i = true := by
  unfold endQ
  by_cases h25 : opAt l i = 25
  · rw [show ((l.getD i (0, 0, 0)).1 == 25) = true from beq_iff_eq.2 h25, show ((i : Int) == ((l.length - 1 : Nat) : Int)) = true by rw [beq_iff_eq]; have := h.1 h25; omega]
    rfl
  · rw [show ((l.getD i (0, 0, 0)).1 == 25) = false from beq_eq_false_iff_ne.2 h25, show ((i : Int) == ((l.length - 1 : Nat) : Int)) = false by rw [beq_eq_false_iff_ne]; intro hc; exact h25 (h.2 (by omega))]
    rfl
theorem maxB_shift {Q Q' : Nat → Bool} {p : Nat} (h0 : ∀ k, k < p → Q k = false) : ∀ {q : Nat}, (∀ k, k < q → Q (k + p) = Q' k) → maxB Q (q + p) = if maxB Q' q = -1 then -1 else maxB Q' q + p
  | 0, h => by
    rw [Nat.zero_add, maxB_none h0]
    rfl
  | q + 1, h => by
    have ih := maxB_shift h0 (q := q) fun k hk => h k (by omega)
    have e1 : maxB Q (q + p + 1) = if Q (q + p) = true then ((q + p : Nat) : Int) else maxB Q (q + p) := rfl
    have e2 : maxB Q' (q + 1) = if Q' q = true then ((q : Nat) : Int) else maxB Q' q := rfl
    rw [h q (by omega)] at e1
    rw [show q + 1 + p = (q + p) + 1 by omega]
    by_cases hq : Q' q = true
    · rw [if_pos hq] at e1 e2
      rw [e1, e2, if_neg (by omega)]
      omega
    · rw [if_neg hq] at e1 e2
      rw [e1, e2]
      exact ih
theorem Both.opa {a b c : List Ins} {p : Nat} {ma mb mc : List Int} (hB : Both a b c p ma mb mc) {i : Nat} (hi : i < p) : opAt c i = opAt a i ∧ argA c i = argA a i ∧ jumpTo c i = jumpTo a i ∧ isOpen c i = isOpen a i := by
  have e := hB.ia i hi
  unfold opAt argA jumpTo isOpen
  rw [e]
  exact ⟨rfl, rfl, rfl, rfl⟩
theorem Both.opb {a b c : List Ins} {p : Nat} {ma mb mc : List Int} (hB : Both a b c p ma mb mc) {i : Nat} (hi : i < b.length) : opAt c (i + p) = opAt b i ∧ argA c (i + p) = argA b i ∧ jumpTo c (i + p) = jumpTo b i + p ∧ isOpen c (i + p) = isOpen b i := by
  have e := hB.ib i hi
  unfold opAt argA jumpTo isOpen
  rw [e]
  exact ⟨rfl, rfl, by omega, rfl⟩
theorem Both.nexta {a b c : List Ins} {p : Nat} {ma mb mc : List Int} (hB : Both a b c p ma mb mc) {i : Nat} (hi : i < p) : nextsI c i = nextsI a i := by
  obtain ⟨e1, e2, e3, e4⟩ := hB.opa hi
  unfold nextsI
  rw [e1, e3]
theorem Both.nextb {a b c : List Ins} {p : Nat} {ma mb mc : List Int} (hB : Both a b c p ma mb mc) {i : Nat} (hi : i < b.length) : nextsI c (i + p) = (nextsI b i).map (· + p) := by
  obtain ⟨e1, e2, e3, e4⟩ := hB.opb hi
  unfold nextsI
  rw [e1, e3]
  split
  · rfl
  · split
    · simp only [List.map_cons, List.map_nil]
      rw [show i + p + 1 = i + 1 + p by omega]
    · split
      · rfl
      · simp only [List.map_cons, List.map_nil]
        rw [show i + p + 1 = i + 1 + p by omega]
theorem Both.opena {a b c : List Ins} {p : Nat} {ma mb mc ha : List Int} (hB : Both a b c p ma mb mc) (Fa : Fine a ma ha) {k : Nat} (hk : k < p) (ho : isOpen a k = true) : ∃ j : Nat, ma.getD k 0 = (j : Int) ∧ mc.getD k 0 = (j : Int) ∧ k < j ∧ j < p := by
  have hpa := hB.pa
  obtain ⟨j, j1, j2, j3, j4, j5⟩ := Fa.closed.op_ k (by omega) ho
  have hjp : j ≠ p := fun hc => by
    have h25 := (ends25 Fa j3).2 (by omega)
    have := ends_op (a.getD k (0, 0, 0))
    rw [← j4] at this
    unfold opAt at h25
    rw [h25] at this
    rcases this with h | h <;> cases h
  exact ⟨j, j1, (hB.mma k hk (by rw [j1]; omega)).trans j1, j2, by omega⟩
theorem Both.homea {a b c : List Ins} {p : Nat} {ma mb mc ha : List Int} (hB : Both a b c p ma mb mc) (Fa : Fine a ma ha) {q : Nat} (hq : q ≤ p) : homeAt c mc q = homeAt a ma q := by
  unfold homeAt
  refine maxB_congr fun k hk => ?_
  rw [(hB.opa (show k < p by omega)).2.2.2]
  cases ho : isOpen a k
  · rfl
  · obtain ⟨j, j1, j2, _⟩ := hB.opena Fa (by omega) ho
    rw [j1, j2]
theorem Both.homeb {a b c : List Ins} {p : Nat} {ma mb mc ha hb : List Int} (hB : Both a b c p ma mb mc) (Fa : Fine a ma ha) (Fb : Fine b mb hb) {q : Nat} (hq : q < b.length) : homeAt c mc (q + p) = if homeAt b mb q = -1 then -1 else homeAt b mb q + p := by
  unfold homeAt
  refine maxB_shift (fun k hk => ?_) (fun k hk => ?_)
  · rw [(hB.opa hk).2.2.2]
    cases ho : isOpen a k
    · rfl
    · obtain ⟨j, j1, j2, j3, j4⟩ := hB.opena Fa hk ho
      rw [j2, Bool.true_and, decide_eq_false (by omega)]
  · rw [(hB.opb (show k < b.length by omega)).2.2.2]
    cases ho : isOpen b k
    · rfl
    · obtain ⟨j, j1, j2, j3⟩ := Fb.nest.open_ k (by omega) ho
      rw [hB.mmb k (by omega) (by rw [j1]; omega), Bool.true_and, Bool.true_and]
      apply bool_iff
      rw [decide_eq_true_eq, decide_eq_true_eq]
      omega
theorem both_whole {a b c : List Ins} {p : Nat} {ma mb ha hb : List Int} (hB : Both a b c p ma mb (scanI c).1) (Fa : Fine a ma ha) (Fb : Fine b mb hb) (sc : (scanI c).2.2 = 0) : wholeI c = 0 := by
  have hN := scanI_nest sc
  have hcl := hB.len
  have hpa := hB.pa
  have hbl := Fb.len
  have split_ : ∀ j, j < c.length → j < p ∨ ∃ k, j = k + p ∧ k < b.length := fun j hj => by
    rcases Nat.lt_or_ge j p with h | h
    · exact .inl h
    · exact .inr ⟨j - p, by omega, by omega⟩
  unfold wholeI
  rw [if_neg (fun h => h sc), if_pos, if_pos]
  · rw [allF_iff]
    intro j _ hj
    rw [Nat.zero_add] at hj
    unfold jumpQ
    split
    · rename_i hop
      rcases split_ j hj with h | ⟨k, rfl, hk⟩
      · obtain ⟨e1, e2, e3, e4⟩ := hB.opa h
        obtain ⟨g1, g2⟩ := Fa.jump (show j < a.length by omega) (by rw [← e1]; exact hop)
        have hq : jumpTo a j ≤ p := by omega
        rw [e3, hN.home _ (by omega), hN.home _ hj, hB.homea Fa hq, hB.homea Fa (by omega), g2, decide_eq_true (by omega), beq_self_eq_true]
        rfl
      · obtain ⟨e1, e2, e3, e4⟩ := hB.opb hk
        obtain ⟨g1, g2⟩ := Fb.jump hk (by rw [← e1]; exact hop)
        rw [e3, hN.home _ (by omega), hN.home _ hj, hB.homeb Fa Fb g1, hB.homeb Fa Fb hk, g2, decide_eq_true (by omega), beq_self_eq_true]
        rfl
    · rfl
  · rw [allF_iff]
    intro j _ hj
    rw [Nat.zero_add] at hj
    refine endQ_of hj ?_
    rcases split_ j hj with h | ⟨k, rfl, hk⟩
    · rw [(hB.opa h).1, ends25 Fa (by omega)]
      omega
    · rw [(hB.opb hk).1, ends25 Fb hk]
      omega
theorem both_stk {a b c : List Ins} {p : Nat} {ma mb mc ha hb : List Int} {sa sb : List ByteArray} (hB : Both a b c p ma mb mc) (Fa : Fine a ma ha) (Fb : Fine b mb hb) (hSa : Stk a ma sa) (hSb : Stk b mb sb) (he : stL sa p = ByteArray.empty) : Stk c mc (sa.take p ++ sb) := by
  have hcl := hB.len
  have hpa := hB.pa
  have hbl := Fb.len
  have lsa := hSa.len
  have lsb := hSb.len
  have ltk : (sa.take p).length = p := by rw [List.length_take]; omega
  have ea : ∀ j, j < p → stL (sa.take p ++ sb) j = stL sa j := fun j hj => by
    unfold stL
    rw [List.getD_eq_getElem?_getD, List.getElem?_append_left (by omega), List.getElem?_take, if_pos hj, List.getD_eq_getElem?_getD]
  have eb : ∀ j, stL (sa.take p ++ sb) (j + p) = stL sb j := fun j => by
    unfold stL
    rw [List.getD_eq_getElem?_getD, List.getElem?_append_right (by omega), ltk, Nat.add_sub_cancel, List.getD_eq_getElem?_getD]
  have ep : ∀ j, j ≤ p → stL (sa.take p ++ sb) j = stL sa j := fun j hj => by
    rcases Nat.lt_or_ge j p with h | h
    · exact ea j h
    · have : j = p := by omega
      subst this
      have := eb 0
      rw [Nat.zero_add] at this
      rw [this, hSb.z, he]
  have split_ : ∀ j, j < p ∨ ∃ k, j = k + p := fun j => by
    rcases Nat.lt_or_ge j p with h | h
    · exact .inl h
    · exact .inr ⟨j - p, by omega⟩
  refine ⟨by rw [List.length_append, ltk, lsb]; omega, fun j => ?_, fun j hj => ?_, fun j hj q hq => ?_, fun j hj h22 => ?_, by rw [ep 0 (Nat.zero_le _)]; exact hSa.z⟩
  · rcases split_ j with h | ⟨k, rfl⟩
    · rw [ea j h]; exact hSa.sz j
    · rw [eb k]; exact hSb.sz k
  · rcases split_ j with h | ⟨k, rfl⟩
    · rw [ea j h, hB.ia j h]; exact hSa.ok j (by omega)
    · rw [eb k, hB.ib k (by omega)]; exact hSb.ok k (by omega)
  · rcases split_ j with h | ⟨k, rfl⟩
    · rw [hB.nexta h] at hq
      have := Fa.next (show j < a.length by omega) q hq
      rw [ea j h, hB.ia j h, ep q (by omega)]
      exact hSa.nx j (by omega) q hq
    · have hk : k < b.length := by omega
      rw [hB.nextb hk, List.mem_map] at hq
      obtain ⟨q', hq', rfl⟩ := hq
      rw [eb k, eb q', hB.ib k hk]
      exact hSb.nx k hk q' hq'
  · rcases split_ j with h | ⟨k, rfl⟩
    · rw [(hB.opa h).1] at h22
      obtain ⟨k, k1, k2, _⟩ := Fa.closed.cl j (by omega) (.inl h22)
      have := hSa.nt j (by omega) h22
      rw [k1, Int.toNat_natCast] at this
      rw [hB.mma j h (by rw [k1]; omega), k1, Int.toNat_natCast, ea j h, ea k (by omega)]
      exact this
    · have hk : k < b.length := by omega
      rw [(hB.opb hk).1] at h22
      obtain ⟨k', k1, k2, _⟩ := Fb.closed.cl k hk (.inl h22)
      have := hSb.nt k hk h22
      rw [k1, Int.toNat_natCast] at this
      rw [hB.mmb k hk (by rw [k1]; omega), k1, show ((k' : Int) + (p : Int)).toNat = k' + p by omega, eb k, eb k']
      exact this
theorem both_come {a b c : List Ins} {p : Nat} {ma mb mc : List Int} (hB : Both a b c p ma mb mc) (ca : Come a) (cb : Come b) : Come c := by
  have hcl := hB.len
  have hpa := hB.pa
  intro k h0 hk
  rcases Nat.lt_or_ge p k with h | h
  · obtain ⟨q, q1, q2⟩ := cb (k - p) (by omega) (by omega)
    refine ⟨q + p, by omega, ?_⟩
    rw [hB.nextb (by omega), List.mem_map]
    exact ⟨k - p, q2, by omega⟩
  · obtain ⟨q, q1, q2⟩ := ca k h0 (by omega)
    exact ⟨q, q1, by rw [hB.nexta (by omega)]; exact q2⟩
theorem locksI_or {l : List Ins} (hw : wholeI l = 0) : locksI l = 0 ∨ locksI l = 11 := by
  unfold locksI
  rw [if_neg (fun h => h hw)]
  split
  · exact .inl rfl
  · exact .inr rfl
end Go.Proofs.Dk

/- Plain: a run of both rows is a run of the first one, and then one of the second one. -/
namespace Go.Proofs.Dk
open Go
set_option maxRecDepth 100000
set_option linter.unusedVariables false
set_option linter.unusedSimpArgs false
abbrev z88 : MemT := [[0, 0, 0, 0, 0, 0, 0, 0], [0, 0, 0, 0, 0, 0, 0, 0], [0, 0, 0, 0, 0, 0, 0, 0], [0, 0, 0, 0, 0, 0, 0, 0], [0, 0, 0, 0, 0, 0, 0, 0], [0, 0, 0, 0, 0, 0, 0, 0], [0, 0, 0, 0, 0, 0, 0, 0], [0, 0, 0, 0, 0, 0, 0, 0]]
noncomputable def stepZ (l : List Ins) (m : List Int) (c : CS) : CS := ⟨(step1 l m ⟨c.on, c.s, z88⟩).on, (step1 l m ⟨c.on, c.s, z88⟩).s, z88⟩
theorem cstepZ {l : List Ins} {m h : List Int} {st : List ByteArray} (hR : Row l m h st) {c : CS} (hc : COk l m st c) (n : Nat) : (∃ ev e mem, stepF n l m c.on c.s z88 = some (ev, e, tupM l m (stepZ l m c).on (stepZ l m c).s mem)) ∧ COk l m st (stepZ l m c) := by
  obtain ⟨⟨ev, e, a1⟩, a2⟩ := cstep hR (c := ⟨c.on, c.s, z88⟩) hc n
  exact ⟨⟨ev, e, _, a1⟩, a2⟩
noncomputable def stepZN (l : List Ins) (m : List Int) : Nat → CS → CS
  | 0, c => c
  | k + 1, c => stepZ l m (stepZN l m k c)
theorem stepZ_off {l : List Ins} {m : List Int} {c : CS} (h : c.on = false) : (stepZ l m c).on = false ∧ (stepZ l m c).s = c.s := by
  unfold stepZ step1
  rw [if_neg (show ¬ c.on = true by rw [h]; decide)]
  exact ⟨h, rfl⟩
theorem stepZN_off {l : List Ins} {m : List Int} {c : CS} {a : Nat} (h : (stepZN l m a c).on = false) : ∀ d, (stepZN l m (a + d) c).on = false ∧ (stepZN l m (a + d) c).s = (stepZN l m a c).s
  | 0 => ⟨h, rfl⟩
  | d + 1 => by
    obtain ⟨h1, h2⟩ := stepZN_off h d
    obtain ⟨h3, h4⟩ := stepZ_off (l := l) (m := m) h1
    exact ⟨h3, h4.trans h2⟩
theorem stepZN_ok {l : List Ins} {m h : List Int} {st : List ByteArray} (hR : Row l m h st) {c : CS} (hc : COk l m st c) : ∀ k, COk l m st (stepZN l m k c)
  | 0 => hc
  | k + 1 => (cstepZ hR (stepZN_ok hR hc k) 0).2
theorem stepZ_on {l : List Ins} {m : List Int} {c : CS} {i : Nat} (h : c.on = true) (hp : c.s.at_ = (i : Int)) : (stepZ l m c).on = decide (opAt l i ≠ 25) ∧ (stepZ l m c).s = stepM (l.getD i (0, 0, 0)) (m.getD i 0) c.s z88 := by
  unfold stepZ step1
  rw [if_pos (show c.on = true from h)]
  dsimp only
  rw [show c.s.at_.toNat = i by rw [hp]; exact Int.toNat_natCast i]
  exact ⟨rfl, rfl⟩
theorem stepM_mt {x : Ins} (h : x.1 ≠ 22) (mt mt' : Int) (s : MS) (mem : MemT) : stepM x mt s mem = stepM x mt' s mem := by
  have : nextM x mt s = nextM x mt' s := by
    unfold nextM
    rw [if_neg h, if_neg h]
  unfold stepM
  rw [this]
theorem i64_or16 (a b : Nat) (ha : a < 65536) (hb : b < 65536) : bits .or .i64 (a : Int) (b : Int) = ((a ||| b : Nat) : Int) := by
  have hx : a ||| b < 2 ^ 16 := Nat.or_lt_two_pow (by omega) (by omega)
  show IntKind.i64.wrap ((BitVec.ofInt 64 (a : Int) ||| BitVec.ofInt 64 (b : Int)).toNat : Int) = _
  rw [BitVec.toNat_or, ofInt_u64 a (by omega), ofInt_u64 b (by omega), wrap_id (by omega) (by omega)]
theorem bit1_16 {A : Int} {a : Nat} (h : A = (a : Int)) (ha : a ≤ 15) : bit1 A = ((2 ^ a : Nat) : Int) ∧ 2 ^ a < 65536 := by
  subst h
  have h1 : min ((a : Int)).toNat 64 = a := by rw [Int.toNat_natCast]; omega
  have h2 : 2 ^ a ≤ 2 ^ 15 := Nat.pow_le_pow_right (by omega) ha
  have h3 : ((2 ^ a : Nat) : Int) = (2 : Int) ^ a := by rw [Int.natCast_pow]; rfl
  refine ⟨?_, by omega⟩
  unfold bit1
  rw [h1, Int.one_mul, ← h3]
  generalize 2 ^ a = w at h2 ⊢
  rw [wrap_id (by omega) (by omega)]
theorem setB_is {x k : Nat} (hx : x < 65536) (hk : k < 16) : setB (x : Int) k = x.testBit k := by
  unfold setB
  have h1 : min ((k : Int)).toNat 64 = k := by rw [Int.toNat_natCast]; omega
  have h3 : (2 : Int) ^ k = ((2 ^ k : Nat) : Int) := by rw [Int.natCast_pow]; rfl
  have h4 : ((x : Int)).fdiv ((2 ^ k : Nat) : Int) = ((x / 2 ^ k : Nat) : Int) := by
    rw [Int.fdiv_eq_ediv_of_nonneg _ (Int.natCast_nonneg _)]
    rfl
  have h5 : x / 2 ^ k < 65536 := Nat.lt_of_le_of_lt (Nat.div_le_self _ _) hx
  have h6 : bits .and .i64 ((x / 2 ^ k : Nat) : Int) 1 = ((x / 2 ^ k % 2 : Nat) : Int) := by
    have hx : (x / 2 ^ k) &&& 1 = x / 2 ^ k % 2 := nat_mask1 _
    show IntKind.i64.wrap ((BitVec.ofInt 64 ((x / 2 ^ k : Nat) : Int) &&& BitVec.ofInt 64 ((1 : Nat) : Int)).toNat : Int) = _
    rw [BitVec.toNat_and, ofInt_u64 _ (by omega), ofInt_u64 1 (by omega), hx, wrap_id (by omega) (by omega)]
  rw [h1, h3, h4, h6, Nat.testBit_eq_decide_div_mod_eq]
  apply bool_iff
  rw [beq_iff_eq, decide_eq_true_eq]
  omega
theorem outs_le {x y z : Nat} (hx : x < 65536) (hy : y < 65536) (hz : z = x ||| y) (o1 o2 o3 : List Int) : ∀ r k, r + k ≤ 16 → (outsF o3 (z : Int) r k).length ≤ (outsF o1 (x : Int) r k).length + (outsF o2 (y : Int) r k).length
  | 0, k, _ => by simp [outsF]
  | r + 1, k, h => by
    have ih := outs_le hx hy hz o1 o2 o3 r (k + 1) (by omega)
    have hz2 : z < 65536 := by rw [hz]; exact Nat.or_lt_two_pow (n := 16) hx hy
    unfold outsF
    rw [setB_is hx (by omega), setB_is hy (by omega), setB_is hz2 (by omega), hz, Nat.testBit_or, List.length_append, List.length_append, List.length_append]
    rw [hz] at ih
    cases x.testBit k <;> cases y.testBit k <;> simp <;> omega
structure RunI (inp : List Int) (t : Nat) (s : MS) : Prop where
  inp : s.inp = inp
  stp : 0 ≤ s.stp ∧ s.stp ≤ (t : Int)
  set : ∃ x : Nat, s.set = (x : Int) ∧ x < 65536
theorem set_step {x : Ins} {mt : Int} {s : MS} {mem : MemT} (hr : rightI x = true) {v : Nat} (hv : s.set = (v : Int)) (hv2 : v < 65536) : ∃ b : Nat, b < 65536 ∧ (∀ s' : MS, ∀ w : Nat, s'.set = (w : Int) → w < 65536 → ∀ mt' mem', (stepM x mt' s' mem').set = ((w ||| b : Nat) : Int)) := by
  by_cases h16 : x.1 = 16
  · have ha := right16 (o := x.1) (A := x.2.1) (B := x.2.2) (.inr h16) hr
    obtain ⟨b1, b2⟩ := bit1_16 (A := x.2.1) (a := x.2.1.toNat) (by omega) (by omega)
    refine ⟨2 ^ x.2.1.toNat, b2, fun s' w hw hw2 mt' mem' => ?_⟩
    show (if x.1 = 16 then bits .or .i64 s'.set (bit1 x.2.1) else s'.set) = _
    rw [if_pos h16, hw, b1, i64_or16 w _ hw2 b2]
  · refine ⟨0, by omega, fun s' w hw hw2 mt' mem' => ?_⟩
    show (if x.1 = 16 then bits .or .i64 s'.set (bit1 x.2.1) else s'.set) = _
    rw [if_neg h16, hw, Nat.or_zero]
theorem RunI.step {l : List Ins} {m h : List Int} {st : List ByteArray} (hR : Row l m h st) {inp : List Int} {t : Nat} {c : CS} (hc : COk l m st c) (hI : RunI inp t c.s) (ht : t < 1000000) : RunI inp (t + 1) (stepZ l m c).s := by
  cases hon : c.on with
  | false =>
    rw [(stepZ_off (l := l) (m := m) hon).2]
    exact ⟨hI.inp, ⟨hI.stp.1, by have := hI.stp.2; omega⟩, hI.set⟩
  | true =>
    obtain ⟨i, rs, hO⟩ := hc hon
    rw [(stepZ_on (l := l) (m := m) hon hO.place).2]
    have hs := hI.stp
    obtain ⟨x, x1, x2⟩ := hI.set
    obtain ⟨b, b1, b2⟩ := set_step (mt := 0) (mem := z88) (hR.fine.right hO.lt) x1 x2
    refine ⟨hI.inp, ?_, x ||| b, b2 c.s x x1 x2 _ _, Nat.or_lt_two_pow (n := 16) x2 b1⟩
    show 0 ≤ IntKind.wrap .i64 (c.s.stp + 1) ∧ IntKind.wrap .i64 (c.s.stp + 1) ≤ _
    rw [wrap_id (by omega) (by omega)]
    omega
theorem RunI.run {l : List Ins} {m h : List Int} {st : List ByteArray} (hR : Row l m h st) {inp : List Int} {c : CS} (hc : COk l m st c) (hI : RunI inp 0 c.s) : ∀ t, t < 1000000 → RunI inp t (stepZN l m t c).s
  | 0, _ => hI
  | t + 1, ht => (RunI.run hR hc hI t (by omega)).step hR (stepZN_ok hR hc t) (by omega)
structure RelB (p : Nat) (S : MS) (T U : CS) : Prop where
  on : U.on = T.on
  at_ : U.s.at_ = T.s.at_ + p
  stk : U.s.stk = T.s.stk
  rds : U.s.rds = T.s.rds
  held : U.s.held = T.s.held
  inp : U.s.inp = T.s.inp
  stp : U.s.stp = S.stp + T.s.stp
  set : ∃ x y : Nat, S.set = (x : Int) ∧ T.s.set = (y : Int) ∧ U.s.set = ((x ||| y : Nat) : Int) ∧ x < 65536 ∧ y < 65536
theorem RelB.step {a b c : List Ins} {p : Nat} {ma mb mc hb : List Int} {sb : List ByteArray} (hB : Both a b c p ma mb mc) (hR : Row b mb hb sb) (h11 : ∀ k, k < b.length → opAt b k ≠ 11 ∧ opAt b k ≠ 13) {S : MS} {T U : CS} (hT : COk b mb sb T) (h : RelB p S T U) (hs : 0 ≤ S.stp ∧ S.stp ≤ 1000000) (ht : 0 ≤ T.s.stp ∧ T.s.stp ≤ 1000000) : RelB p S (stepZ b mb T) (stepZ c mc U) := by
  cases hon : T.on with
  | false =>
    have e1 := stepZ_off (l := b) (m := mb) hon
    have e2 := stepZ_off (l := c) (m := mc) (h.on.trans hon)
    refine ⟨e2.1.trans e1.1.symm, ?_, ?_, ?_, ?_, ?_, ?_, ?_⟩ <;> rw [e1.2, e2.2]
    · exact h.at_
    · exact h.stk
    · exact h.rds
    · exact h.held
    · exact h.inp
    · exact h.stp
    · exact h.set
  | true =>
    obtain ⟨i, rs, hO⟩ := hT hon
    have hi := hO.lt
    have hp := hO.place
    have hpU : U.s.at_ = ((i + p : Nat) : Int) := by rw [h.at_, hp]; omega
    have e1 := stepZ_on (l := b) (m := mb) hon hp
    have e2 := stepZ_on (l := c) (m := mc) (h.on.trans hon) hpU
    have hr := hR.fine.right hi
    have hm : opAt b i = 22 → mc.getD (i + p) 0 = mb.getD i 0 + p := fun h22 => by
      obtain ⟨k, k1, _⟩ := hR.fine.closed.cl i hi (.inl h22)
      exact hB.mmb i hi (by rw [k1]; omega)
    rw [hB.ib i hi] at e2
    obtain ⟨x, y, s1, s2, s3, s4, s5⟩ := h.set
    obtain ⟨w, w1, w2⟩ := set_step (mt := 0) (mem := z88) hr s2 s5
    obtain ⟨n11, n13⟩ := h11 i hi
    unfold opAt at hm n11 n13
    have eop := (hB.opb hi).1
    unfold opAt at eop
    refine ⟨?_, ?_, ?_, ?_, ?_, ?_, ?_, x, y ||| w, s1, ?_, ?_, s4, Nat.or_lt_two_pow (n := 16) s5 w1⟩
    · rw [e1.1, e2.1]
      unfold opAt
      rw [eop]
    all_goals try rw [e1.2]
    all_goals try rw [e2.2]
    · show nextM _ _ _ = nextM _ _ _ + _
      unfold nextM
      rw [h.at_, h.stk, h.rds]
      split
      · omega
      · split
        · split <;> omega
        · split
          · rename_i h22
            rw [hm h22]
            split <;> omega
          · omega
    · show stkM _ _ _ = stkM _ _ _
      unfold stkM
      rw [h.stk, h.inp, if_neg n11, if_neg n13, if_neg n11, if_neg n13]
    · show rdsM _ _ = rdsM _ _
      unfold rdsM
      rw [h.rds]
    · show (if _ then _ else if _ then _ else _) = (if _ then _ else if _ then _ else _)
      rw [h.held]
    · exact h.inp
    · show IntKind.wrap .i64 (U.s.stp + 1) = S.stp + IntKind.wrap .i64 (T.s.stp + 1)
      have := h.stp
      rw [wrap_id (by omega) (by omega), wrap_id (by omega) (by omega)]
      omega
    · exact w2 _ _ s2 s5 _ _
    · rw [w2 _ _ s3 (Nat.or_lt_two_pow (n := 16) s4 s5) _ _, Nat.or_assoc]
theorem first_off {f : Nat → Bool} : ∀ {n : Nat}, f 0 = true → f n = false → ∃ k, k < n ∧ (∀ j, j ≤ k → f j = true) ∧ f (k + 1) = false
  | 0, h0, h1 => by rw [h0] at h1; cases h1
  | n + 1, h0, h1 => by
    cases hn : f n with
    | false =>
      obtain ⟨k, k1, k2, k3⟩ := first_off h0 hn
      exact ⟨k, by omega, k2, k3⟩
    | true =>
      by_cases hall : ∀ j, j ≤ n → f j = true
      · exact ⟨n, by omega, hall, h1⟩
      · have : ∃ j, j ≤ n ∧ f j = false := Classical.byContradiction fun hc => hall fun j hj => by
          cases hf : f j
          · exact absurd ⟨j, hj, hf⟩ hc
          · rfl
        obtain ⟨j, j1, j2⟩ := this
        rcases Nat.lt_or_ge j n with hj | hj
        · obtain ⟨k, k1, k2, k3⟩ := first_off h0 j2
          exact ⟨k, by omega, k2, k3⟩
        · have : j = n := by omega
          rw [this, hn] at j2; cases j2
  termination_by n => n
theorem both_runs {a b c : List Ins} {p : Nat} {ma mb mc ha hb hc : List Int} {sa sb sc : List ByteArray} (hB : Both a b c p ma mb mc) (Ra : Row a ma ha sa) (Rb : Row b mb hb sb) (Rc : Row c mc hc sc) (he : stL sa p = ByteArray.empty) (h11 : ∀ k, k < b.length → opAt b k ≠ 11 ∧ opAt b k ≠ 13) (ret inp : List Int) {n : Nat} (hn : n < 1000000)
    (offa : (stepZN a ma n ⟨true, startS ret inp, z88⟩).on = false) (offb : (stepZN b mb n ⟨true, startS ret inp, z88⟩).on = false) (offc : (stepZN c mc n ⟨true, startS ret inp, z88⟩).on = false) :
    (stepZN c mc n ⟨true, startS ret inp, z88⟩).s.stp = (stepZN a ma n ⟨true, startS ret inp, z88⟩).s.stp + (stepZN b mb n ⟨true, startS ret inp, z88⟩).s.stp - 1 ∧
    (outsI (stepZN c mc n ⟨true, startS ret inp, z88⟩).s.out (stepZN c mc n ⟨true, startS ret inp, z88⟩).s.set).length ≤ (outsI (stepZN a ma n ⟨true, startS ret inp, z88⟩).s.out (stepZN a ma n ⟨true, startS ret inp, z88⟩).s.set).length + (outsI (stepZN b mb n ⟨true, startS ret inp, z88⟩).s.out (stepZN b mb n ⟨true, startS ret inp, z88⟩).s.set).length ∧
    (0 ≤ (stepZN a ma n ⟨true, startS ret inp, z88⟩).s.stp ∧ (stepZN a ma n ⟨true, startS ret inp, z88⟩).s.stp ≤ (n : Int)) ∧ (0 ≤ (stepZN b mb n ⟨true, startS ret inp, z88⟩).s.stp ∧ (stepZN b mb n ⟨true, startS ret inp, z88⟩).s.stp ≤ (n : Int)) := by
  generalize hst : (⟨true, startS ret inp, z88⟩ : CS) = c0 at *
  have ca : COk a ma sa c0 := fun _ => ⟨0, [], by rw [← hst]; exact start_ok Ra ret inp⟩
  have cb : COk b mb sb c0 := fun _ => ⟨0, [], by rw [← hst]; exact start_ok Rb ret inp⟩
  have hI0 : RunI inp 0 c0.s := by rw [← hst]; exact ⟨rfl, ⟨Int.le_refl _, Int.le_refl _⟩, 0, rfl, by decide⟩
  have hpa := hB.pa
  obtain ⟨t1, q1, q2, q3⟩ := first_off (f := fun t => (stepZN a ma t c0).on) (n := n) (by rw [← hst]; rfl) offa
  -- the first row, within both
  have same : ∀ t, t ≤ t1 → stepZN c mc t c0 = stepZN a ma t c0 := by
    intro t
    induction t with
    | zero => intro _; rfl
    | succ t ih =>
      intro ht
      have e := ih (by omega)
      show stepZ c mc (stepZN c mc t c0) = stepZ a ma (stepZN a ma t c0)
      rw [e]
      have hon : (stepZN a ma t c0).on = true := q2 t (by omega)
      obtain ⟨i, rs, hO⟩ := stepZN_ok Ra ca t hon
      have h1 := stepZ_on (l := a) (m := ma) hon hO.place
      have h2 := stepZ_on (l := c) (m := mc) hon hO.place
      have hnx : (stepZ a ma (stepZN a ma t c0)).on = true := q2 (t + 1) ht
      have h25 : opAt a i ≠ 25 := by rw [h1.1] at hnx; exact of_decide_eq_true hnx
      have hip : i < p := by
        have := hO.lt
        rcases Nat.lt_or_ge i p with h | h
        · exact h
        · exact absurd ((ends25 Ra.fine hO.lt).2 (by omega)) h25
      have eM : stepM (c.getD i (0, 0, 0)) (mc.getD i 0) (stepZN a ma t c0).s z88 = stepM (a.getD i (0, 0, 0)) (ma.getD i 0) (stepZN a ma t c0).s z88 := by
        rw [hB.ia i hip]
        by_cases h22 : opAt a i = 22
        · obtain ⟨k, k1, _⟩ := Ra.fine.closed.cl i hO.lt (.inl h22)
          rw [hB.mma i hip (by rw [k1]; omega)]
        · exact stepM_mt h22 _ _ _ _
      have eo : (stepZ c mc (stepZN a ma t c0)).on = (stepZ a ma (stepZN a ma t c0)).on := by rw [h1.1, h2.1, (hB.opa hip).1]
      have es : (stepZ c mc (stepZN a ma t c0)).s = (stepZ a ma (stepZN a ma t c0)).s := by rw [h1.2, h2.2, eM]
      have em : (stepZ c mc (stepZN a ma t c0)).mem = (stepZ a ma (stepZN a ma t c0)).mem := rfl
      generalize stepZ c mc (stepZN a ma t c0) = u at eo es em
      generalize stepZ a ma (stepZN a ma t c0) = v at eo es em
      cases u; cases v
      cases eo; cases es; cases em
      rfl
  have hon : (stepZN a ma t1 c0).on = true := q2 t1 (Nat.le_refl _)
  obtain ⟨i, rs, hO⟩ := stepZN_ok Ra ca t1 hon
  have h1 := stepZ_on (l := a) (m := ma) hon hO.place
  have hoff1 : (stepZ a ma (stepZN a ma t1 c0)).on = false := q3
  have h25 : opAt a i = 25 := by
    rw [h1.1] at hoff1
    exact Decidable.not_not.1 (of_decide_eq_false hoff1)
  have hip : i = p := by have := (ends25 Ra.fine hO.lt).1 h25; omega
  subst hip
  have hfin := stepZN_off (l := a) (m := ma) (c := c0) (a := t1 + 1) q3 (n - (t1 + 1))
  rw [show t1 + 1 + (n - (t1 + 1)) = n by omega] at hfin
  have hMs : (stepZN a ma n c0).s = stepM (a.getD i (0, 0, 0)) (ma.getD i 0) (stepZN a ma t1 c0).s z88 := hfin.2.trans h1.2
  have hIS := RunI.run Ra ca hI0 t1 (by omega)
  generalize hS : (stepZN a ma t1 c0).s = S at *
  have hstk : S.stk = [] := by
    have := hO.vt
    rw [he] at this
    have h2 := this.len
    exact List.eq_nil_of_length_eq_zero h2
  have hlps : lps a ma i = [] := by
    cases hl : lps a ma i with
    | nil => rfl
    | cons k r =>
      exfalso
      have hk : k ∈ lps a ma i := by rw [hl]; exact List.mem_cons_self ..
      obtain ⟨k1, k2⟩ := lps_mem hk
      obtain ⟨j, j1, j2, j3, j4⟩ := hB.opena Ra.fine (enc_open k1).1 (enc_open k1).2
      have := (enc_iff (enc_open k1).2 j1).1 k1
      omega
  have hrds : S.rds = [] := by
    have e := hO.lps
    rw [hlps] at e
    rw [hO.rds, List.map_eq_nil_iff.1 e]
    rfl
  have hheld : S.held = 0 := by
    obtain ⟨v, v1, v2⟩ := hO.held
    have : v = 0 := by
      apply Nat.eq_of_testBit_eq
      intro bb
      rw [Nat.zero_testBit]
      cases hb : v.testBit bb
      · rfl
      · exfalso
        obtain ⟨k, k1, k2, k3⟩ := (v2.2 bb).1 hb
        obtain ⟨j, j1, j2, j3, j4⟩ := hB.opena Ra.fine (enc_open k1).1 (enc_open k1).2
        have := (enc_iff (enc_open k1).2 j1).1 k1
        omega
    rw [v1, this]
    rfl
  have hU0 : (stepZN c mc t1 c0).s = S := by rw [same t1 (Nat.le_refl _), hS]
  have hU0on : (stepZN c mc t1 c0).on = true := by rw [same t1 (Nat.le_refl _)]; exact hon
  obtain ⟨xs, xs1, xs2⟩ := hIS.set
  have rel : ∀ t, t < 1000000 → RelB i S (stepZN b mb t c0) (stepZN c mc (t1 + t) c0) := by
    intro t
    induction t with
    | zero =>
      intro _
      refine ⟨?_, ?_, ?_, ?_, ?_, ?_, ?_, xs, 0, xs1, ?_, ?_, xs2, by decide⟩
      all_goals show _
      all_goals try rw [show t1 + 0 = t1 from rfl]
      all_goals try rw [hU0]
      · rw [hU0on, ← hst]; rfl
      · rw [hO.place, ← hst]; show (i : Int) = 0 + (i : Int); omega
      · rw [hstk, ← hst]; rfl
      · rw [hrds, ← hst]; rfl
      · rw [hheld, ← hst]; rfl
      · rw [hIS.inp, ← hst]; rfl
      · rw [← hst]; show S.stp = S.stp + 0; omega
      · rw [← hst]; rfl
      · rw [xs1, Nat.or_zero]
    | succ t ih =>
      intro ht
      have hT := RunI.run Rb cb hI0 t (by omega)
      have hs2 := hT.stp
      have hs1 := hIS.stp
      exact (ih (by omega)).step hB Rb h11 (stepZN_ok Rb cb t) ⟨hs1.1, by omega⟩ ⟨hs2.1, by omega⟩
  have hrel := rel (n - t1) (by omega)
  rw [show t1 + (n - t1) = n by omega] at hrel
  have hoffb : (stepZN b mb (n - t1) c0).on = false := by rw [← hrel.on]; exact offc
  have hbfin := stepZN_off (l := b) (m := mb) (c := c0) hoffb t1
  rw [show n - t1 + t1 = n by omega] at hbfin
  obtain ⟨x, y, y1, y2, y3, y4, y5⟩ := hrel.set
  have hstp : (stepZN a ma n c0).s.stp = S.stp + 1 := by
    rw [hMs]
    show IntKind.wrap .i64 (S.stp + 1) = _
    have := hIS.stp
    rw [wrap_id (by omega) (by omega)]
  have hset : (stepZN a ma n c0).s.set = S.set ∧ (stepZN a ma n c0).s.out = S.out := by
    rw [hMs]
    show (if _ then _ else _) = _ ∧ (if _ then _ else _) = _
    unfold opAt at h25
    rw [if_neg (by rw [h25]; decide), if_neg (by rw [h25]; decide)]
    exact ⟨rfl, rfl⟩
  refine ⟨?_, ?_, (RunI.run Ra ca hI0 n hn).stp, (RunI.run Rb cb hI0 n hn).stp⟩
  · rw [hrel.stp, hstp, hbfin.2]
    omega
  · rw [hset.1, hset.2, y1, y3, hbfin.2, y2]
    exact outs_le y4 y5 rfl _ _ _ 16 0 (by omega)
end Go.Proofs.Dk

/- VmParts is true. -/
namespace Go.Proofs.Dk
open Go
set_option maxRecDepth 100000
set_option linter.unusedVariables false
theorem parts_b1 (n : Nat) {a b : List Ins} (hl : a.length + b.length ≤ 200) (hn : 200 < n) (hk : camshaftlaw08_known.f n = some true) (inp : List Int) :
    ∃ r, camshaftlaw08_VmParts.b1.l n (a, b, 0, inp) = some r ∧ ((∃ z, r = .inl ((true, ()), z)) ∨ ((∀ k, k < b.length → opAt b k ≠ 11 ∧ opAt b k ≠ 13) ∧ r = .inr ((a, b, ()), ((inp, ()), ())))) := by
  show ∃ r, it _ n _ = some r ∧ _
  refine it_ex (fun f y => ∃ k : Nat, k ≤ a.length + b.length ∧ a.length + b.length < f + k ∧ (∀ j, j + a.length < k → opAt b j ≠ 11 ∧ opAt b j ≠ 13) ∧ y = (a, b, (k : Int), inp)) _ (fun y ⟨k, h1, h2, _⟩ => by omega) ?_ n _ ⟨0, by omega, by omega, fun j hj => by omega, rfl⟩
  rintro f y F hF ⟨k, h1, h2, h3, rfl⟩
  show ∃ r, camshaftlaw08_VmParts.b1 n F a b (k : Int) inp = some r ∧ _
  unfold camshaftlaw08_VmParts.b1
  rw [wrap_id (show -9223372036854775808 ≤ (a.length : Int) + (b.length : Int) by omega) (by omega), hk]
  rcases Nat.lt_or_ge k (a.length + b.length) with hk2 | hk2
  · rw [if_pos (decide_eq_true (by omega))]
    have hj : ∃ o A B, camshaftlaw08_VmParts.j0 n a b (k : Int) inp 0 0 0 = some (a, b, (k : Int), inp, o, A, B) ∧ (a.length ≤ k → o = opAt b (k - a.length)) := by
      unfold camshaftlaw08_VmParts.j0
      rcases Nat.lt_or_ge k a.length with h | h
      · rw [if_pos (decide_eq_true (by omega)), if_pos (in_ix h)]
        exact ⟨_, _, _, rfl, fun h2 => by omega⟩
      · have e : IntKind.wrap .i64 ((k : Int) - (a.length : Int)) = ((k - a.length : Nat) : Int) := by rw [wrap_id (by omega) (by omega)]; omega
        rw [if_neg (by simp; omega), e, if_pos (in_ix (by omega)), Int.toNat_natCast]
        exact ⟨_, _, _, rfl, fun _ => rfl⟩
    obtain ⟨o, A, B, e1, e2⟩ := hj
    rw [e1, Option.bind_some]
    dsimp only
    by_cases h11 : o = 11
    · rw [if_pos (beq_iff_eq.2 h11)]
      exact ⟨_, rfl, .inl ⟨_, rfl⟩⟩
    · rw [if_neg (fun h => h11 (beq_iff_eq.1 h))]
      by_cases h13 : o = 13
      · rw [if_pos (beq_iff_eq.2 h13)]
        exact ⟨_, rfl, .inl ⟨_, rfl⟩⟩
      · rw [if_neg (fun h => h13 (beq_iff_eq.1 h)), next_ix (by omega)]
        refine hF _ ⟨k + 1, by omega, by omega, fun j hj => ?_, rfl⟩
        by_cases e : j + a.length = k
        · have := e2 (by omega)
          rw [show k - a.length = j by omega] at this
          rw [← this]
          exact ⟨h11, h13⟩
        · exact h3 j (by omega)
  · rw [if_neg (by simp; omega)]
    exact ⟨_, rfl, .inr ⟨fun j hj => h3 j (by omega), rfl⟩⟩
theorem parts_b3 (n : Nat) (hn : 3000 < n) {a b c : List Ins} {ma mb mc ha hb hc : List Int} {sa sb sc : List ByteArray} (Ra : Row a ma ha sa) (Rb : Row b mb hb sb) (Rc : Row c mc hc sc) {M N O : CS} (cM : COk a ma sa M) (cN : COk b mb sb N) (cO : COk c mc sc O) :
    ∃ r, camshaftlaw08_VmParts.b3.l n (0, a, ma, M.s.ret, M.on, M.s.at_, M.s.stk, M.s.loc, M.s.inp, M.s.out, M.s.set, M.s.rds, M.s.held, M.s.flt, M.s.stp, b, mb, N.s.ret, N.on, N.s.at_, N.s.stk, N.s.loc, N.s.inp, N.s.out, N.s.set, N.s.rds, N.s.held, N.s.flt, N.s.stp, c, mc, O.s.ret, O.on, O.s.at_, O.s.stk, O.s.loc, O.s.inp, O.s.out, O.s.set, O.s.rds, O.s.held, O.s.flt, O.s.stp) = some r ∧
    ∃ M' N' O', (M' = stepZN a ma 3000 M ∧ N' = stepZN b mb 3000 N ∧ O' = stepZN c mc 3000 O) ∧ r = (a, ma, M'.s.ret, M'.on, M'.s.at_, M'.s.stk, M'.s.loc, M'.s.inp, M'.s.out, M'.s.set, M'.s.rds, M'.s.held, M'.s.flt, M'.s.stp, b, mb, N'.s.ret, N'.on, N'.s.at_, N'.s.stk, N'.s.loc, N'.s.inp, N'.s.out, N'.s.set, N'.s.rds, N'.s.held, N'.s.flt, N'.s.stp, c, mc, O'.s.ret, O'.on, O'.s.at_, O'.s.stk, O'.s.loc, O'.s.inp, O'.s.out, O'.s.set, O'.s.rds, O'.s.held, O'.s.flt, O'.s.stp) := by
  show ∃ r, it _ n _ = some r ∧ _
  refine it_ex (fun f x => ∃ (k : Nat) (M' N' O' : CS), k ≤ 3000 ∧ 3000 < f + k ∧ (M' = stepZN a ma k M ∧ N' = stepZN b mb k N ∧ O' = stepZN c mc k O) ∧ x = ((k : Int), a, ma, M'.s.ret, M'.on, M'.s.at_, M'.s.stk, M'.s.loc, M'.s.inp, M'.s.out, M'.s.set, M'.s.rds, M'.s.held, M'.s.flt, M'.s.stp, b, mb, N'.s.ret, N'.on, N'.s.at_, N'.s.stk, N'.s.loc, N'.s.inp, N'.s.out, N'.s.set, N'.s.rds, N'.s.held, N'.s.flt, N'.s.stp, c, mc, O'.s.ret, O'.on, O'.s.at_, O'.s.stk, O'.s.loc, O'.s.inp, O'.s.out, O'.s.set, O'.s.rds, O'.s.held, O'.s.flt, O'.s.stp)) _ (fun x ⟨k, M', N', O', h1, h2, _⟩ => by omega) ?_ n _ ⟨0, M, N, O, by omega, by omega, ⟨rfl, rfl, rfl⟩, rfl⟩
  rintro f x F hF ⟨k, M', N', O', h1, h2, ⟨h3, h4, h5⟩, rfl⟩
  show ∃ r, camshaftlaw08_VmParts.b3 n F (k : Int) a ma M'.s.ret M'.on M'.s.at_ M'.s.stk M'.s.loc M'.s.inp M'.s.out M'.s.set M'.s.rds M'.s.held M'.s.flt M'.s.stp b mb N'.s.ret N'.on N'.s.at_ N'.s.stk N'.s.loc N'.s.inp N'.s.out N'.s.set N'.s.rds N'.s.held N'.s.flt N'.s.stp c mc O'.s.ret O'.on O'.s.at_ O'.s.stk O'.s.loc O'.s.inp O'.s.out O'.s.set O'.s.rds O'.s.held O'.s.flt O'.s.stp = some r ∧ _
  unfold camshaftlaw08_VmParts.b3
  have hend : (k = 3000 ∨ (M'.on = false ∧ N'.on = false ∧ O'.on = false)) → ∃ M2 N2 O2, (M2 = stepZN a ma 3000 M ∧ N2 = stepZN b mb 3000 N ∧ O2 = stepZN c mc 3000 O) ∧ M2.on = M'.on ∧ M2.s = M'.s ∧ N2.on = N'.on ∧ N2.s = N'.s ∧ O2.on = O'.on ∧ O2.s = O'.s := fun h => by
    refine ⟨_, _, _, ⟨rfl, rfl, rfl⟩, ?_⟩
    rcases h with h | ⟨g1, g2, g3⟩
    · subst h
      rw [← h3, ← h4, ← h5]
      exact ⟨rfl, rfl, rfl, rfl, rfl, rfl⟩
    · rw [h3] at g1
      rw [h4] at g2
      rw [h5] at g3
      have e1 := stepZN_off g1 (3000 - k)
      have e2 := stepZN_off g2 (3000 - k)
      have e3 := stepZN_off g3 (3000 - k)
      rw [show k + (3000 - k) = 3000 by omega] at e1 e2 e3
      rw [h3, h4, h5]
      exact ⟨e1.1.trans g1.symm, e1.2, e2.1.trans g2.symm, e2.2, e3.1.trans g3.symm, e3.2⟩
  by_cases hgo : k < 3000 ∧ (M'.on = true ∨ N'.on = true ∨ O'.on = true)
  · have hj : camshaftlaw08_VmParts.j2 n (k : Int) a ma M'.s.ret M'.on M'.s.at_ M'.s.stk M'.s.loc M'.s.inp M'.s.out M'.s.set M'.s.rds M'.s.held M'.s.flt M'.s.stp b mb N'.s.ret N'.on N'.s.at_ N'.s.stk N'.s.loc N'.s.inp N'.s.out N'.s.set N'.s.rds N'.s.held N'.s.flt N'.s.stp c mc O'.s.ret O'.on O'.s.at_ O'.s.stk O'.s.loc O'.s.inp O'.s.out O'.s.set O'.s.rds O'.s.held O'.s.flt O'.s.stp = some (.inl (((k : Int), ()), ((a, ma, M'.s.ret, M'.on, M'.s.at_, M'.s.stk, M'.s.loc, M'.s.inp, M'.s.out, M'.s.set, M'.s.rds, M'.s.held, M'.s.flt, M'.s.stp, ()), (b, mb, N'.s.ret, N'.on, N'.s.at_, N'.s.stk, N'.s.loc, N'.s.inp, N'.s.out, N'.s.set, N'.s.rds, N'.s.held, N'.s.flt, N'.s.stp, ()), (c, mc, O'.s.ret, O'.on, O'.s.at_, O'.s.stk, O'.s.loc, O'.s.inp, O'.s.out, O'.s.set, O'.s.rds, O'.s.held, O'.s.flt, O'.s.stp, ()), ()))) := by
      unfold camshaftlaw08_VmParts.j2
      rw [if_pos (decide_eq_true (by omega))]
      by_cases g1 : M'.on = true
      · rw [if_pos g1]
      · rw [if_neg g1]
        by_cases g2 : N'.on = true
        · rw [if_pos g2]
        · rw [if_neg g2]
          by_cases g3 : O'.on = true
          · rw [if_pos g3]
          · exact absurd hgo.2 (by simp [g1, g2, g3])
    rw [hj, Option.bind_some]
    dsimp only [Sum.elim_inl]
    have kM := stepZN_ok Ra cM k
    have kN := stepZN_ok Rb cN k
    have kO := stepZN_ok Rc cO k
    rw [← h3] at kM
    rw [← h4] at kN
    rw [← h5] at kO
    obtain ⟨ev1, er1, mm1, f1⟩ := (cstepZ Ra kM n).1
    obtain ⟨ev2, er2, mm2, f2⟩ := (cstepZ Rb kN n).1
    obtain ⟨ev3, er3, mm3, f3⟩ := (cstepZ Rc kO n).1
    unfold stepF tupM at f1 f2 f3
    rw [f1, Option.bind_some, f2, Option.bind_some, f3, Option.bind_some, next_ix (by omega)]
    refine hF _ ⟨k + 1, stepZ a ma M', stepZ b mb N', stepZ c mc O', by omega, by omega, ⟨by rw [h3]; rfl, by rw [h4]; rfl, by rw [h5]; rfl⟩, rfl⟩
  · have hk' : k = 3000 ∨ (M'.on = false ∧ N'.on = false ∧ O'.on = false) := by
      rcases Nat.lt_or_ge k 3000 with hk | hk
      · right
        cases hM : M'.on
        · cases hN : N'.on
          · cases hO : O'.on
            · exact ⟨rfl, rfl, rfl⟩
            · exact absurd ⟨hk, .inr (.inr hO)⟩ hgo
          · exact absurd ⟨hk, .inr (.inl hN)⟩ hgo
        · exact absurd ⟨hk, .inl hM⟩ hgo
      · left; omega
    have hj : camshaftlaw08_VmParts.j2 n (k : Int) a ma M'.s.ret M'.on M'.s.at_ M'.s.stk M'.s.loc M'.s.inp M'.s.out M'.s.set M'.s.rds M'.s.held M'.s.flt M'.s.stp b mb N'.s.ret N'.on N'.s.at_ N'.s.stk N'.s.loc N'.s.inp N'.s.out N'.s.set N'.s.rds N'.s.held N'.s.flt N'.s.stp c mc O'.s.ret O'.on O'.s.at_ O'.s.stk O'.s.loc O'.s.inp O'.s.out O'.s.set O'.s.rds O'.s.held O'.s.flt O'.s.stp = some (.inr ((), ((a, ma, M'.s.ret, M'.on, M'.s.at_, M'.s.stk, M'.s.loc, M'.s.inp, M'.s.out, M'.s.set, M'.s.rds, M'.s.held, M'.s.flt, M'.s.stp, ()), (b, mb, N'.s.ret, N'.on, N'.s.at_, N'.s.stk, N'.s.loc, N'.s.inp, N'.s.out, N'.s.set, N'.s.rds, N'.s.held, N'.s.flt, N'.s.stp, ()), (c, mc, O'.s.ret, O'.on, O'.s.at_, O'.s.stk, O'.s.loc, O'.s.inp, O'.s.out, O'.s.set, O'.s.rds, O'.s.held, O'.s.flt, O'.s.stp, ()), ()))) := by
      unfold camshaftlaw08_VmParts.j2
      rcases Nat.lt_or_ge k 3000 with hk | hk
      · obtain ⟨g1, g2, g3⟩ := hk'.elim (fun h => absurd h (by omega)) id
        rw [if_pos (decide_eq_true (by omega)), if_neg (by rw [g1]; decide), if_neg (by rw [g2]; decide), if_neg (by rw [g3]; decide)]
      · rw [if_neg (by simp; omega)]
    rw [hj, Option.bind_some]
    dsimp only [Sum.elim_inr]
    obtain ⟨M2, N2, O2, e0, e1, e2, e3, e4, e5, e6⟩ := hend hk'
    refine ⟨_, rfl, M2, N2, O2, e0, ?_⟩
    rw [e1, e2, e3, e4, e5, e6]
theorem cap_ok2 {k : Nat} (h : k ≤ 400) : (decide (k * 24 ≤ 140737488355328) && decide (1 ≤ 24)) = true := by simp; omega
theorem camshaftlaw08_VmParts_true (a0 : (List (Int × (Int × Int)))) (a1 : (List (Int × (Int × Int)))) (a2 : (List Int)) (ok0 : Sh.Ok (.sl (.pair (.int .i64) (.pair (.int .i64) (.int .i64)))) a0) (ok1 : Sh.Ok (.sl (.pair (.int .i64) (.pair (.int .i64) (.int .i64)))) a1) (ok2 : Sh.Ok (.arr 16 (.int .i64)) a2) (le0 : a0.length ≤ 140737488351232) (le1 : a1.length ≤ 140737488351232) : ∃ n, camshaftlaw08_VmParts.f n a0 a1 a2 = some true := by
  refine ⟨30000, ?_⟩
  unfold camshaftlaw08_VmParts.f
  rw [known8]
  rcases Nat.lt_or_ge a0.length 1 with h0 | h0
  · rw [if_pos (decide_eq_true (by omega))]
    rfl
  rw [if_neg (by simp; omega), wrap_id (show -9223372036854775808 ≤ (a0.length : Int) + (a1.length : Int) by omega) (by omega)]
  rcases Nat.lt_or_ge 200 (a0.length + a1.length) with hl | hl
  · rw [if_pos (decide_eq_true (by omega))]
    rfl
  rw [if_neg (by simp; omega)]
  obtain ⟨r, f1, f2⟩ := parts_b1 30000 hl (by omega) known8 a2
  rw [f1, Option.bind_some]
  rcases f2 with ⟨z, f2⟩ | ⟨h11, f2⟩
  · subst f2
    rfl
  subst f2
  dsimp only [Sum.elim_inr]
  have ka := locks_is2 30000 a0 (by omega) (by omega)
  have kb := locks_is2 30000 a1 (by omega) (by omega)
  have sa := stacks_is2 30000 a0 (by omega) (by omega) (by omega)
  have sb := stacks_is2 30000 a1 (by omega) (by omega) (by omega)
  have ma := match_is 30000 a0 (by omega) (by omega)
  have mb := match_is 30000 a1 (by omega) (by omega)
  rw [ka, kb, sa, sb, mb]
  dsimp only [Option.bind_some]
  by_cases z1 : locksI a0 = 0
  · have e1 : (locksI a0 != 0) = false := by simp [z1]
    rw [e1]
    by_cases z2 : stacksI a0 = 0
    · have e2 : (stacksI a0 != 0) = false := by simp [z2]
      rw [e2]
      rw [if_neg (by decide), if_neg (by decide), ma, Option.bind_some, if_pos (cap_ok (by omega))]
      by_cases z3 : locksI a1 = 0
      · have e3 : (locksI a1 != 0) = false := by simp [z3]
        rw [e3]
        by_cases z4 : stacksI a1 = 0
        · have e4 : (stacksI a1 != 0) = false := by simp [z4]
          rw [e4]
          rw [if_neg (by decide), if_neg (by decide), if_pos (cap_ok (by omega))]
          have Ra := row_of z1 z2
          have Rb := row_of z3 z4
          have lsa := Ra.stk.len
          have hlb := Rb.fine.len
          rw [lsa, if_neg (fun h => by rw [beq_iff_eq] at h; omega), last_ix h0 (by omega), if_pos (in_ix (by omega)), Int.toNat_natCast]
          by_cases hz : (!((stacksL a0).getD (a0.length - 1) ByteArray.empty).toList == (ByteArray.mk #[]).toList) = true
          · rw [if_pos hz]
          rw [if_neg hz]
          have hz2 : stL (stacksL a0) (a0.length - 1) = ByteArray.empty := by
            apply toList_inj
            rw [Bool.not_eq_true, Bool.not_eq_false'] at hz
            exact eq_of_beq hz
          rw [List.drop_zero, List.nil_append]
          have hcl : (a0.take (a0.length - 1) ++ a1).length = a0.length - 1 + a1.length := by simp
          obtain ⟨sc, hB⟩ := both_scan (whole_scan (locks_whole2 z1)) Ra.fine.last (whole_scan (locks_whole2 z3)) hl
          have hW := both_whole hB Ra.fine Rb.fine sc
          have hS := both_stk hB Ra.fine Rb.fine Ra.stk Rb.stk hz2
          have hC := both_come hB (come_is z2).2 (come_is z4).2
          have hT := stacks_conv hW hS hC
          rw [if_pos (by simp), if_pos (cap_ok2 (by simp; omega)), if_pos (cap_ok2 (by simp; omega))]
          generalize hc : a0.take (a0.length - 1) ++ a1 = c at *
          have kc := locks_is2 30000 c (by omega) (by omega)
          have tc := stacks_is2 30000 c (by omega) (by omega) (by omega)
          have mc := match_is 30000 c (by omega) (by omega)
          rw [kc, Option.bind_some]
          dsimp only
          rcases locksI_or hW with z5 | z5
          · have Rc := row_of z5 hT
            rw [if_neg (by rw [z5]; decide), tc, Option.bind_some]
            dsimp only
            rw [if_neg (by rw [hT]; decide), mc, Option.bind_some, if_pos (cap_ok (by omega)), start_is 30000 (by omega), Option.bind_some]
            dsimp only
            rw [start_is 30000 (by omega), Option.bind_some]
            dsimp only
            rw [start_is 30000 (by omega), Option.bind_some]
            dsimp only
            obtain ⟨r, g1, M', N', O', ⟨g2, g3, g4⟩, g5⟩ := parts_b3 30000 (by omega) Ra Rb Rc (M := ⟨true, startS [0, 0, 0, 0, 0, 0, 0, 0] a2, z88⟩) (N := ⟨true, startS [0, 0, 0, 0, 0, 0, 0, 0] a2, z88⟩) (O := ⟨true, startS [0, 0, 0, 0, 0, 0, 0, 0] a2, z88⟩) (fun _ => ⟨0, [], start_ok Ra _ _⟩) (fun _ => ⟨0, [], start_ok Rb _ _⟩) (fun _ => ⟨0, [], start_ok Rc _ _⟩)
            subst g5
            dsimp only at g1
            rw [g1, Option.bind_some]
            dsimp only
            by_cases hM : M'.on = true
            · rw [if_pos hM]
            rw [if_neg hM]
            by_cases hN : N'.on = true
            · rw [if_pos hN]
            rw [if_neg hN]
            by_cases hO : O'.on = true
            · rw [if_pos hO]
            rw [if_neg hO]
            rw [Bool.not_eq_true] at hM hN hO
            rw [g2] at hM
            rw [g3] at hN
            rw [g4] at hO
            obtain ⟨q1, q2, q3, q4⟩ := both_runs hB Ra Rb Rc hz2 h11 [0, 0, 0, 0, 0, 0, 0, 0] a2 (n := 3000) (by omega) hM hN hO
            rw [← g2, ← g3, ← g4] at q1 q2
            rw [← g2] at q3
            rw [← g3] at q4
            rw [wrap_id (show -9223372036854775808 ≤ M'.s.stp + N'.s.stp by omega) (by omega), wrap_id (show -9223372036854775808 ≤ M'.s.stp + N'.s.stp - 1 by omega) (by omega), if_pos (beq_iff_eq.2 q1)]
            rw [outs_is 30000 (by omega), Option.bind_some, outs_is 30000 (by omega), Option.bind_some, outs_is 30000 (by omega), Option.bind_some]
            dsimp only
            have w1 := outsI_len M'.s.out M'.s.set
            have w2 := outsI_len N'.s.out N'.s.set
            rw [wrap_id (show -9223372036854775808 ≤ ((outsI M'.s.out M'.s.set).length : Int) + ((outsI N'.s.out N'.s.set).length : Int) by omega) (by omega), if_pos (decide_eq_true (by omega))]
          · rw [if_pos (by rw [z5]; decide), if_pos (by rw [z5]; decide), if_pos (by rw [z5]; decide)]
        · have e4 : (stacksI a1 != 0) = true := by simpa using z4
          rw [e4]
          rw [if_neg (by decide), if_pos rfl, if_pos rfl]
      · have e3 : (locksI a1 != 0) = true := by simpa using z3
        rw [e3]
        rw [if_pos rfl, if_pos rfl]
    · have e2 : (stacksI a0 != 0) = true := by simpa using z2
      rw [e2]
      rw [if_neg (by decide), if_pos rfl]
      by_cases z3 : (locksI a1 != 0) = true
      · rw [if_pos z3, if_pos rfl]
      · rw [if_neg z3]
        by_cases z4 : (stacksI a1 != 0) = true
        · rw [if_pos z4, if_pos rfl]
        · rw [if_neg z4, if_pos (cap_ok (by omega)), if_pos rfl]
  · have e1 : (locksI a0 != 0) = true := by simpa using z1
    rw [e1]
    rw [if_pos rfl]
    by_cases z3 : (locksI a1 != 0) = true
    · rw [if_pos z3, if_pos rfl]
    · rw [if_neg z3]
      by_cases z4 : (stacksI a1 != 0) = true
      · rw [if_pos z4, if_pos rfl]
      · rw [if_neg z4, if_pos (cap_ok (by omega)), if_pos rfl]
end Go.Proofs.Dk

/- Rows in what a law is given are no longer than they can be. -/
namespace Go.Proofs.Dk
open Go Go.RowKit Go.ChangeShapes Go.WideShapes
set_option linter.unusedVariables false
section
variable {P : Program}
end
end Go.Proofs.Dk

namespace Go.Proofs.Ytfppdlcgipnacaa.vmParts
open Go.ChangeShapes Go.WideShapes Go.ChangeAt Go.RowKit Go.Proofs.Dk
open Go.ChangeMaps (open_string shut_string)
set_option linter.unusedVariables false
theorem own : ownKnob Try.prog.godebug = none := by kernel_rfl
theorem laidOut : laidOutB Try.prog = true := by kernel_rfl
set_option maxRecDepth 100000 in
theorem lifted (os : Os) (started : os.Started) (H : Type) (enc : TypeId × Value → H) :
    ReturnsInHanded {} Try.checked os 8 .any (Rows.vmPartsSpec.pre6 enc Try.prog Try.f8 Rows.vmPartsRow.domain false) (Rows.vmPartsSpec.post enc Try.prog Try.f8 false true false false) := by
  refine returnsInHanded_of_change_sized (C := Try.checked) own started (by kernel_rfl) Try.func8
    (ChangeSpec.witness6 (enc := enc) (C := Try.checked) false ⟨#[], #[.slice none 0 0, .slice none 0 0, .agg #[.int .i64 0, .int .i64 0, .int .i64 0, .int .i64 0, .int .i64 0, .int .i64 0, .int .i64 0, .int .i64 0, .int .i64 0, .int .i64 0, .int .i64 0, .int .i64 0, .int .i64 0, .int .i64 0, .int .i64 0, .int .i64 0]], []⟩ 8 (by kernel_rfl) (by kernel_rfl) (by kernel_rfl) (by kernel_rfl)) ?_
  intro W base args ds gs before hval0 hW hcnd hsz0 _
  have hval : ∀ (j : Nat) t v, Try.f8.params[j]? = some t → args[j]? = some v → Value.okWide Try.prog W .any base t v := hval0
  have hW' := hW
  obtain ⟨p, q, hA0, hV, rfl, hfz, hnd⟩ := hW
  have hA : DataW.TrodAll enc Try.prog W 0 (fun _ => true) true Try.f8.params.toList args.toList ds p := hA0
  rw [Try.params8] at hA hval
  obtain ⟨v0, vs0, d0, ds0, p0, q0, hargs, rfl, rfl, h0, r0⟩ := trodAll_cons hA
  obtain ⟨v1, vs1, d1, ds1, p1, q1, rfl, rfl, rfl, h1, r1⟩ := trodAll_cons r0
  obtain ⟨v2, vs2, d2, ds2, p2, q2, rfl, rfl, rfl, h2, r2⟩ := trodAll_cons r1
  obtain ⟨rfl, rfl, rfl⟩ := trodAll_nil r2
  obtain rfl : args = #[v0, v1, v2] := by cases args; simp_all
  obtain ⟨rfl, rfl⟩ := trodVars_none hV
  have lt0 : ∀ x ∈ p0, x.block < W.heap.size := by have k := h0; obtain ⟨m, hm⟩ := k; exact DataW.trod_lt m _ _ _ hm
  obtain ⟨a0, vr0, ok0⟩ := opened (s := (.sl (.pair (.int .i64) (.pair (.int .i64) (.int .i64))))) 9 (by kernel_rfl) (by kernel_rfl) (hval 0 22 v0 rfl rfl) h0
  have lt1 : ∀ x ∈ p1, x.block < W.heap.size := by have k := h1; obtain ⟨m, hm⟩ := k; exact DataW.trod_lt m _ _ _ hm
  obtain ⟨a1, vr1, ok1⟩ := opened (s := (.sl (.pair (.int .i64) (.pair (.int .i64) (.int .i64))))) 9 (by kernel_rfl) (by kernel_rfl) (hval 1 22 v1 rfl rfl) h1
  have lt2 : ∀ x ∈ p2, x.block < W.heap.size := by have k := h2; obtain ⟨m, hm⟩ := k; exact DataW.trod_lt m _ _ _ hm
  obtain ⟨a2, vr2, ok2⟩ := opened (s := (.arr 16 (.int .i64))) 9 (by kernel_rfl) (by kernel_rfl) (hval 2 23 v2 rfl rfl) h2
  have le0 := opened_len (s := (.pair (.int .i64) (.pair (.int .i64) (.int .i64)))) 0 (t := 22) rfl (by kernel_rfl) hsz0 rfl rfl vr0 h0
  have le1 := opened_len (s := (.pair (.int .i64) (.pair (.int .i64) (.int .i64)))) 1 (t := 22) rfl (by kernel_rfl) hsz0 rfl rfl vr1 h1
  obtain ⟨N, hN⟩ := camshaftlaw08_VmParts_true a0 a1 a2 ok0 ok1 ok2 le0 le1
  refine (law_calls (S := camshaftlaw08_VmParts.fs N) (x := ((a0, a1, a2, ()), ())) (y := true) (fun hH hA hx hρ hk => (camshaftlaw08_VmParts.ok N).ok hH hA hx hρ hk) (A := [Sh.val (.sl (.pair (.int .i64) (.pair (.int .i64) (.int .i64)))) a0, Sh.val (.sl (.pair (.int .i64) (.pair (.int .i64) (.int .i64)))) a1, Sh.val (.arr 16 (.int .i64)) a2]) (args := [v0, v1, v2]) (.cons _ _ _ _ vr0 (.cons _ _ _ _ vr1 (.cons _ _ _ _ vr2 .nil))) (by kernel_rfl) hN (fun _ _ => rfl) (fun _ => rfl)).mono fun e W' hE => ?_
  obtain ⟨he, bel⟩ := hE
  subst he
  exact ⟨_, rfl, _, _, _, [], _, [], hW', trodAll_mk1 (shut_bool Try.underlying4 _), ⟨_, _, (Below.trod laidOut (by kernel_rfl) (of_decide_eq_true (by kernel_rfl)) h0 bel lt0), ⟨_, _, (Below.trod laidOut (by kernel_rfl) (of_decide_eq_true (by kernel_rfl)) h1 bel lt1), ⟨_, _, (Below.trod laidOut (by kernel_rfl) (of_decide_eq_true (by kernel_rfl)) h2 bel lt2), rfl, rfl⟩, rfl⟩, rfl⟩, rfl, bel.frame _, fun h => by cases h⟩
theorem over : Rows.vmPartsRow.holds Try.pinned (OpenSpec.ofChange Rows.vmPartsSpec) :=
  OpenClaim.holds_of_wide 8 Try.f8 rfl rfl rfl rfl rfl rfl rfl ⟨rfl, rfl, rfl, rfl, rfl⟩ rfl rfl rfl rfl rfl (by kernel_rfl) Try.func8 (by kernel_rfl)
    (of_decide_eq_true (by kernel_rfl)) (by unfold Func.isWrapper; first | (rw [if_pos (by decide +kernel)]; kernel_rfl) | (rw [if_neg (by decide +kernel)]; exact ⟨rfl, rfl⟩))
    (fun os started H enc _ => lifted os started H enc)
theorem proved : Rows.VmPartsSaid := over
#print axioms proved
end Go.Proofs.Ytfppdlcgipnacaa.vmParts
namespace Go.Proofs.Ytfppdlcgipnacaa
theorem vmParts_holds : Rows.VmPartsSaid := vmParts.proved
end Go.Proofs.Ytfppdlcgipnacaa
