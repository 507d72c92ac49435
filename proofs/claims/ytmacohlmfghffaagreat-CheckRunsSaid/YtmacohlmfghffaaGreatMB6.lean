/- A part of the proofs: Plain: what closes, and what it closes. -/
import Derived.Test.YtmacohlmfghffaaGreatMB5
import Derived.Test.YtmacohlmfghffaaGreatMB4
/- Plain: what closes, and what it closes. -/
namespace Go.Proofs.Dk
open Go
set_option maxRecDepth 100000
set_option linter.unusedVariables false
set_option linter.unusedSimpArgs false
theorem ends_op (x : Ins) : (ends x).1 = 22 ∨ (ends x).1 = 24 := by
  unfold ends
  split
  · exact .inl rfl
  · exact .inr rfl
theorem isOpen_iff {l : List Ins} {k : Nat} : isOpen l k = true ↔ opAt l k = 21 ∨ opAt l k = 23 := by
  unfold isOpen
  rw [Bool.or_eq_true, beq_iff_eq, beq_iff_eq]
theorem close_not {l : List Ins} {j k : Nat} (h : l.getD j (0, 0, 0) = ends (l.getD k (0, 0, 0))) : isOpen l j = false := by
  rw [Bool.eq_false_iff]
  intro h2
  rw [isOpen_iff] at h2
  have := ends_op (l.getD k (0, 0, 0))
  unfold opAt at h2
  rw [h] at h2
  omega
structure ScanK (l : List Ins) (i : Nat) (m : List Int) (op : List (Int × Ins)) : Prop where
  cl : ∀ j, j < i → opAt l j = 22 ∨ opAt l j = 24 → ∃ k : Nat, m.getD j 0 = (k : Int) ∧ k < j ∧ isOpen l k = true ∧ inOp op k = false ∧ m.getD k 0 = (j : Int) ∧ l.getD j (0, 0, 0) = ends (l.getD k (0, 0, 0))
  op_ : ∀ k, k < i → isOpen l k = true → inOp op k = true ∨ ∃ j : Nat, m.getD k 0 = (j : Int) ∧ k < j ∧ j < i ∧ l.getD j (0, 0, 0) = ends (l.getD k (0, 0, 0)) ∧ m.getD j 0 = (k : Int)
theorem inOp_false {op : List (Int × Ins)} {k : Nat} : inOp op k = false ↔ ∀ e ∈ op, e.1 ≠ (k : Int) := by
  unfold inOp
  rw [List.any_eq_false]
  simp
theorem inOp_true {op : List (Int × Ins)} {k : Nat} : inOp op k = true ↔ ∃ e ∈ op, e.1 = (k : Int) := by
  unfold inOp
  rw [List.any_eq_true]
  simp
theorem take_last {α : Type} {l : List α} {d : α} (h : 0 < l.length) : l = l.take (l.length - 1) ++ [l.getD (l.length - 1) d] := by
  have h1 : l.getD (l.length - 1) d = l[l.length - 1] := by
    rw [List.getD_eq_getElem?_getD, List.getElem?_eq_getElem (by omega)]
    rfl
  rw [h1]
  have h2 := List.take_append_getElem (l := l) (i := l.length - 1) (by omega)
  rw [h2, List.take_of_length_le (by omega)]
theorem ScanK.step {l : List Ins} {i : Nat} {m h m' h' : List Int} {op op' : List (Int × Ins)} (hI : ScanI l i m h op) (hJ : ScanJ l i m h op) (hK : ScanK l i m op) (hi : i < l.length) (hs : scanStep (l.getD i (0, 0, 0)) i m h op = some (m', h', op')) : ScanK l (i + 1) m' op' := by
  have him : i < m.length := by rw [hI.hm]; exact hi
  have m1 : ∀ k, k ≠ i → (m.set i (-1)).getD k 0 = m.getD k 0 := fun k hk => by rw [getD_set him, if_neg hk]
  unfold scanStep at hs
  simp only at hs
  by_cases ho : (l.getD i (0, 0, 0)).1 = 21 ∨ (l.getD i (0, 0, 0)).1 = 23
  · rw [if_pos ho] at hs
    simp only [Option.some.injEq, Prod.mk.injEq] at hs
    obtain ⟨rfl, rfl, rfl⟩ := hs
    refine ⟨fun j hj hc => ?_, fun k hk hk2 => ?_⟩
    · have : j ≠ i := fun e => by subst e; unfold opAt at hc; omega
      obtain ⟨k, k1, k2, k3, k4, k5, k6⟩ := hK.cl j (by omega) hc
      refine ⟨k, ?_, k2, k3, ?_, ?_, k6⟩
      · rw [m1 j this, k1]
      · rw [inOp_append, k4, inOp_false.2 (fun e he => ?_)]
        · rfl
        · rw [List.mem_singleton] at he
          subst he
          simp only
          omega
      · rw [m1 k (by omega), k5]
    · by_cases e : k = i
      · subst e
        exact .inl (inOp_true.2 ⟨_, List.mem_append_right _ (List.mem_singleton.2 rfl), rfl⟩)
      · rcases hK.op_ k (by omega) hk2 with h1 | ⟨j, j1, j2, j3, j4, j5⟩
        · exact .inl (by rw [inOp_append, h1, Bool.true_or])
        · exact .inr ⟨j, by rw [m1 k e, j1], j2, by omega, j4, by rw [m1 j (by omega), j5]⟩
  · rw [if_neg ho] at hs
    by_cases hc : (l.getD i (0, 0, 0)).1 = 22 ∨ (l.getD i (0, 0, 0)).1 = 24
    · rw [if_pos hc] at hs
      by_cases h0 : op.length = 0
      · rw [if_pos h0] at hs
        cases hs
      · rw [if_neg h0] at hs
        by_cases he : (op.getD (op.length - 1) (0, 0, 0, 0)).2 = l.getD i (0, 0, 0)
        · rw [if_pos he] at hs
          simp only [Option.some.injEq, Prod.mk.injEq] at hs
          obtain ⟨rfl, rfl, rfl⟩ := hs
          have hmem : op.getD (op.length - 1) (0, 0, 0, 0) ∈ op := last_mem (by omega)
          have htl := take_last (l := op) (d := (0, 0, 0, 0)) (by omega)
          obtain ⟨t, t1, t2, t3, t4, t5⟩ := hI.at_ _ hmem
          have hinc := hJ.inc
          generalize op.getD (op.length - 1) (0, 0, 0, 0) = top at *
          rw [t2, Int.toNat_natCast]
          have htin : inOp op t = true := inOp_true.2 ⟨_, hmem, t2⟩
          have hto : isOpen l t = true := isOpen_iff.2 t5
          have htm : t < ((m.set i (-1)).set i ((t : Nat) : Int)).length := by simp; omega
          have mt : ∀ k, k ≠ i → k ≠ t → (((m.set i (-1)).set i ((t : Nat) : Int)).set t (i : Int)).getD k 0 = m.getD k 0 := fun k h1 h2 => by
            rw [getD_set htm, if_neg h2, getD_set (by simpa using him), if_neg h1, m1 k h1]
          have mi : (((m.set i (-1)).set i ((t : Nat) : Int)).set t (i : Int)).getD i 0 = (t : Int) := by
            rw [getD_set htm, if_neg (by omega), getD_set (by simpa using him), if_pos rfl]
          have mtt : (((m.set i (-1)).set i ((t : Nat) : Int)).set t (i : Int)).getD t 0 = (i : Int) := by
            rw [getD_set htm, if_pos rfl]
          have hend : l.getD i (0, 0, 0) = ends (l.getD t (0, 0, 0)) := he.symm.trans t4
          have hlast : ∀ e ∈ op.take (op.length - 1), e.1 < top.1 := fun e he2 => by
            rw [htl] at hinc
            exact (List.pairwise_append.1 hinc).2.2 e he2 top (List.mem_singleton.2 rfl)
          have hnot : inOp (op.take (op.length - 1)) t = false := inOp_false.2 fun e he2 => by
            have := hlast e he2
            omega
          refine ⟨fun j hj hcj => ?_, fun k hk hk2 => ?_⟩
          · by_cases e : j = i
            · subst e
              exact ⟨t, mi, t1, hto, hnot, mtt, hend⟩
            · obtain ⟨k, k1, k2, k3, k4, k5, k6⟩ := hK.cl j (by omega) hcj
              have hkt : k ≠ t := fun e2 => by subst e2; rw [htin] at k4; cases k4
              have hjt : j ≠ t := fun e2 => by
                subst e2
                unfold opAt at hcj
                omega
              refine ⟨k, by rw [mt j e hjt, k1], k2, k3, ?_, by rw [mt k (by omega) hkt, k5], k6⟩
              exact inOp_false.2 fun e2 he2 => inOp_false.1 k4 e2 (List.mem_of_mem_take he2)
          · have hki : k ≠ i := fun e => by
              subst e
              rw [isOpen_iff] at hk2
              unfold opAt at hk2
              omega
            by_cases e : k = t
            · subst e
              exact .inr ⟨i, mtt, t1, by omega, hend, mi⟩
            · rcases hK.op_ k (by omega) hk2 with h1 | ⟨j, j1, j2, j3, j4, j5⟩
              · rw [inOp_true] at h1
                obtain ⟨e1, e2, e3⟩ := h1
                rw [htl] at e2
                rcases List.mem_append.1 e2 with h4 | h4
                · exact .inl (inOp_true.2 ⟨e1, h4, e3⟩)
                · rw [List.mem_singleton] at h4
                  subst h4
                  omega
              · have hjt : j ≠ t := fun e2 => by
                  subst e2
                  rw [close_not j4] at hto
                  cases hto
                exact .inr ⟨j, by rw [mt k hki e, j1], j2, by omega, j4, by rw [mt j (by omega) hjt, j5]⟩
        · rw [if_neg he] at hs
          cases hs
    · rw [if_neg hc] at hs
      simp only [Option.some.injEq, Prod.mk.injEq] at hs
      obtain ⟨rfl, rfl, rfl⟩ := hs
      refine ⟨fun j hj hcj => ?_, fun k hk hk2 => ?_⟩
      · have : j ≠ i := fun e => by subst e; exact hc hcj
        obtain ⟨k, k1, k2, k3, k4, k5, k6⟩ := hK.cl j (by omega) hcj
        exact ⟨k, by rw [m1 j this, k1], k2, k3, k4, by rw [m1 k (by omega), k5], k6⟩
      · have : k ≠ i := fun e => by subst e; exact ho (isOpen_iff.1 hk2)
        rcases hK.op_ k (by omega) hk2 with h1 | ⟨j, j1, j2, j3, j4, j5⟩
        · exact .inl h1
        · exact .inr ⟨j, by rw [m1 k this, j1], j2, by omega, j4, by rw [m1 j (by omega), j5]⟩
theorem scanK_end {l : List Ins} : ∀ (r i : Nat) {m h m' h' : List Int} {op op' : List (Int × Ins)}, ScanI l i m h op → ScanJ l i m h op → ScanK l i m op → r + i = l.length → scanS l r i m h op = some (m', h', op') → ScanK l l.length m' op'
  | 0, i, m, h, m', h', op, op', hI, hJ, hK, hr, hs => by
    simp only [scanS, Option.some.injEq, Prod.mk.injEq] at hs
    obtain ⟨rfl, rfl, rfl⟩ := hs
    have : i = l.length := by omega
    subst this
    exact hK
  | r + 1, i, m, h, m', h', op, op', hI, hJ, hK, hr, hs => by
    simp only [scanS] at hs
    cases hstep : scanStep (l.getD i (0, 0, 0)) i m h op with
    | none => rw [hstep] at hs; cases hs
    | some y =>
      obtain ⟨m1, h1, op1⟩ := y
      rw [hstep] at hs
      exact scanK_end r (i + 1) (hI.step (by omega) hstep) (hJ.step hI (by omega) hstep) (hK.step hI hJ (by omega) hstep) (by omega) hs
structure Closed (l : List Ins) (m : List Int) : Prop where
  cl : ∀ j, j < l.length → opAt l j = 22 ∨ opAt l j = 24 → ∃ k : Nat, m.getD j 0 = (k : Int) ∧ k < j ∧ isOpen l k = true ∧ m.getD k 0 = (j : Int) ∧ l.getD j (0, 0, 0) = ends (l.getD k (0, 0, 0))
  op_ : ∀ k, k < l.length → isOpen l k = true → ∃ j : Nat, m.getD k 0 = (j : Int) ∧ k < j ∧ j < l.length ∧ l.getD j (0, 0, 0) = ends (l.getD k (0, 0, 0)) ∧ m.getD j 0 = (k : Int)
theorem scanI_closed {l : List Ins} (h : (scanI l).2.2 = 0) : Closed l (scanI l).1 := by
  unfold scanI at h ⊢
  split at h
  · rename_i hr
    rw [if_pos hr]
    split at h
    · rename_i m' h' op hs
      split at h
      · cases h
      · rename_i h0
        simp only [if_neg h0]
        have hK := scanK_end l.length 0 (ScanI.start l) (ScanJ.start l) ⟨fun j hj => by omega, fun k hk => by omega⟩ (by omega) hs
        have : op = [] := List.eq_nil_of_length_eq_zero (by omega)
        subst this
        refine ⟨fun j hj hc => ?_, fun k hk ho => ?_⟩
        · obtain ⟨k, k1, k2, k3, k4, k5, k6⟩ := hK.cl j hj hc
          exact ⟨k, k1, k2, k3, k5, k6⟩
        · rcases hK.op_ k hk ho with h1 | h1
          · simp [inOp] at h1
          · exact h1
    · cases h
  · cases h
end Go.Proofs.Dk

/- Plain: the stacks of a row, by the program. -/
namespace Go.Proofs.Dk
open Go
set_option maxRecDepth 100000
set_option linter.unusedVariables false
set_option linter.unusedSimpArgs false
def neB (a b : ByteArray) : Bool := !(a.toList == b.toList)
def afterI (x : Ins) (s : ByteArray) : ByteArray × Int :=
  if s.size < (takesI x.1).size then (ByteArray.mk #[], 9)
  else if fitsB (s.extract (s.size - (takesI x.1).size) s.size) (takesI x.1) = true then
    (if (s.extract 0 (s.size - (takesI x.1).size) ++ givesI x.1 x.2.1 (s.extract (s.size - (takesI x.1).size) s.size)).size > 16 then (ByteArray.mk #[], 9)
    else (s.extract 0 (s.size - (takesI x.1).size) ++ givesI x.1 x.2.1 (s.extract (s.size - (takesI x.1).size) s.size), 0))
  else (ByteArray.mk #[], 10)
theorem after_size (x : Ins) (s : ByteArray) : (afterI x s).1.size ≤ 16 := by
  unfold afterI
  split
  · exact Nat.zero_le _
  · split
    · split
      · exact Nat.zero_le _
      · simp only; omega
    · exact Nat.zero_le _
theorem gives_size {o A : Int} {t : ByteArray} (h : t.size ≤ 2) : (givesI o A t).size ≤ 4 := by
  unfold givesI
  split
  · decide
  · split
    · rw [ByteArray.size_append]; omega
    · split
      · rw [ByteArray.size_append, ByteArray.size_extract, ByteArray.size_extract]; omega
      · split
        · split <;> decide
        · split <;> decide
theorem cut_ix {a b : Nat} (h : b ≤ a) (ha : a < 1000000) : IntKind.wrap .i64 ((a : Int) - (b : Int)) = ((a - b : Nat) : Int) := by
  rw [wrap_id (by omega) (by omega)]
  omega
theorem after_is (n : Nat) (hn : 3 < n) (hn2 : n < 1000000) {o A B : Int} (h : rightI (o, A, B) = true) {s : ByteArray} (hs : s.size ≤ 16) : types_after.f n (o, A, B) s = some (afterI (o, A, B) s) := by
  have ht := takes_size (right_op h)
  unfold types_after.f afterI
  simp only [takes_is n h, Option.bind_some]
  by_cases hlt : s.size < (takesI o).size
  · rw [if_pos hlt, if_pos]
    rw [wrap_id (by omega) (by omega)]
    simp; omega
  · rw [if_neg hlt, cut_ix (by omega) (by omega), if_neg (by simp), if_pos (by simp), Int.toNat_natCast, fits_is n _ _ (by omega) hn2, Option.bind_some]
    rcases Bool.eq_false_or_eq_true (fitsB (s.extract (s.size - (takesI o).size) s.size) (takesI o)) with hf | hf
    · rw [hf, if_neg (by decide), if_pos rfl, if_pos (by simp), gives_is n hn hn2 h hf, Option.bind_some]
      have hg := gives_size (o := o) (A := A) (t := s.extract (s.size - (takesI o).size) s.size) (by rw [ByteArray.size_extract]; omega)
      have hx : (s.extract 0 (s.size - (takesI o).size)).size ≤ 16 := by rw [ByteArray.size_extract]; omega
      rw [if_pos (decide_eq_true (by omega))]
      generalize s.extract 0 (s.size - (takesI o).size) ++ givesI o A (s.extract (s.size - (takesI o).size) s.size) = out
      by_cases hb : out.size > 16
      · rw [if_pos hb, if_pos (show decide ((out.size : Int) > 16) = true from decide_eq_true (by omega)), if_pos (by simp)]
      · rw [if_neg hb, if_neg (show ¬ decide ((out.size : Int) > 16) = true by simp only [decide_eq_true_eq]; omega), if_pos (by simp)]
    · rw [hf, if_pos (by decide), if_neg (by decide)]
abbrev Flow := List ByteArray × List Bool × List Bool
def handI (q : Nat) (t : ByteArray) (f : Flow) : Flow := (f.1.set q t, f.2.1.set q true, if (f.2.1.getD q false && neB (f.1.getD q ByteArray.empty) t) = true then f.2.2.set q true else f.2.2)
def nextsI (l : List Ins) (i : Nat) : List Nat := if opAt l i = 19 then [jumpTo l i] else if opAt l i = 20 then [i + 1, jumpTo l i] else if opAt l i = 25 then [] else [i + 1]
def flowStep (l : List Ins) (m : List Int) (i : Nat) (f : Flow) : Int ⊕ Flow :=
  if f.2.1.getD i false = false then .inl 8
  else if f.2.2.getD i false = true then .inl 10
  else if opAt l i = 22 ∧ neB (f.1.getD (m.getD i 0).toNat ByteArray.empty) (f.1.getD i ByteArray.empty) = true then .inl 10
  else if (afterI (l.getD i (0, 0, 0)) (f.1.getD i ByteArray.empty)).2 ≠ 0 then .inl (afterI (l.getD i (0, 0, 0)) (f.1.getD i ByteArray.empty)).2
  else .inr ((nextsI l i).foldl (fun g k => handI k (afterI (l.getD i (0, 0, 0)) (f.1.getD i ByteArray.empty)).1 g) f)
structure FlowI (l : List Ins) (f : Flow) : Prop where
  a : f.1.length = l.length
  b : f.2.1.length = l.length
  c : f.2.2.length = l.length
  s : ∀ k, (f.1.getD k ByteArray.empty).size ≤ 16
theorem handI_ok {l : List Ins} {f : Flow} (h : FlowI l f) (q : Nat) {t : ByteArray} (ht : t.size ≤ 16) : FlowI l (handI q t f) := by
  refine ⟨by simp [handI, h.a], by simp [handI, h.b], ?_, fun k => ?_⟩
  · unfold handI
    simp only
    split
    · simp [h.c]
    · exact h.c
  · unfold handI
    simp only
    rcases Nat.lt_or_ge q f.1.length with hlt | hge
    · rw [getD_set hlt]
      split
      · exact ht
      · exact h.s k
    · rw [List.set_eq_of_length_le hge]
      exact h.s k
theorem stacks_j0 (n : Nat) {l : List Ins} {f : Flow} (h : FlowI l f) {q : Nat} (hto : q < l.length) (t : ByteArray) :
    Kq4.j0 n (q : Int) t f.1 f.2.1 f.2.2 = some ((q : Int), t, f.1, f.2.1, (handI q t f).2.2) := by
  obtain ⟨st, so, cl⟩ := f
  have ha : st.length = l.length := h.a
  have hb : so.length = l.length := h.b
  have hc : cl.length = l.length := h.c
  unfold Kq4.j0 handI neB
  simp only [Int.toNat_natCast]
  rw [if_pos (in_ix (by omega))]
  rcases Bool.eq_false_or_eq_true (so.getD q false) with h1 | h1
  · rw [h1, if_pos rfl, if_pos (in_ix (by omega)), Bool.true_and]
    rcases Bool.eq_false_or_eq_true (!((st.getD q ByteArray.empty).toList == t.toList)) with h2 | h2
    · rw [h2, if_pos rfl, if_pos (in_ix (by omega)), if_pos rfl]
    · rw [h2, if_neg (by decide), if_neg (by decide)]
  · rw [h1, if_neg (by decide), Bool.false_and, if_neg (by decide)]
theorem stacks_hand (n : Nat) {l : List Ins} {f : Flow} (h : FlowI l f) {q : Nat} (hto : q < l.length) (t : ByteArray) {R : Type} (K : Int → ByteArray → List ByteArray → List Bool → List Bool → Option R) :
    ((Kq4.j0 n (q : Int) t f.1 f.2.1 f.2.2).bind fun y => (if (decide (0 ≤ y.1) && decide (y.1 < (y.2.2.2.1.length : Int))) then (if (decide (0 ≤ y.1) && decide (y.1 < (y.2.2.1.length : Int))) then K y.1 y.2.1 (y.2.2.1.set y.1.toNat y.2.1) (y.2.2.2.1.set y.1.toNat true) y.2.2.2.2 else none) else none)) = K (q : Int) t (handI q t f).1 (handI q t f).2.1 (handI q t f).2.2 := by
  rw [stacks_j0 n h hto t, Option.bind_some]
  simp only
  rw [if_pos (in_ix (by rw [h.b]; exact hto)), if_pos (in_ix (by rw [h.a]; exact hto)), Int.toNat_natCast]
  rfl
end Go.Proofs.Dk

/- Plain: the stacks of a row, by the program, on. -/
namespace Go.Proofs.Dk
open Go
set_option maxRecDepth 100000
set_option linter.unusedVariables false
set_option linter.unusedSimpArgs false
structure Fine (l : List Ins) (m h : List Int) : Prop where
  nest : Nest l m h
  closed : Closed l m
  ends : ∀ j, j < l.length → endQ l j = true
  jumps : ∀ j, j < l.length → jumpQ l h j = true
theorem whole_fine {l : List Ins} (h : wholeI l = 0) : Fine l (scanI l).1 (scanI l).2.1 := by
  have hs := whole_scan h
  unfold wholeI at h
  rw [if_neg (by simpa using hs)] at h
  split at h
  · rename_i h1
    split at h
    · rename_i h2
      exact ⟨scanI_nest hs, scanI_closed hs, fun j hj => allF_iff.1 h1 j (Nat.zero_le _) (by omega), fun j hj => allF_iff.1 h2 j (Nat.zero_le _) (by omega)⟩
    · cases h
  · cases h
theorem Fine.len {l : List Ins} {m h : List Int} (hF : Fine l m h) : 0 < l.length ∧ l.length ≤ 200 := ⟨(rowI_len hF.nest.row).1, (rowI_len hF.nest.row).2.1⟩
theorem Fine.right {l : List Ins} {m h : List Int} (hF : Fine l m h) {i : Nat} (hi : i < l.length) : rightI (l.getD i (0, 0, 0)) = true := (rowI_len hF.nest.row).2.2 i hi
theorem Fine.succ {l : List Ins} {m h : List Int} (hF : Fine l m h) {i : Nat} (hi : i < l.length) (h : opAt l i ≠ 25) : i + 1 < l.length := by
  have h1 := hF.ends i hi
  unfold endQ at h1
  have h2 : ((l.getD i (0, 0, 0)).1 == 25) = false := by rw [beq_eq_false_iff_ne]; exact h
  rw [h2] at h1
  have h3 : ((i : Int) == ((l.length - 1 : Nat) : Int)) = false := by
    cases h4 : ((i : Int) == ((l.length - 1 : Nat) : Int))
    · rfl
    · rw [h4] at h1; cases h1
  rw [beq_eq_false_iff_ne] at h3
  omega
theorem Fine.last {l : List Ins} {m h : List Int} (hF : Fine l m h) : opAt l (l.length - 1) = 25 := by
  have h1 := hF.ends (l.length - 1) (by have := hF.len; omega)
  unfold endQ at h1
  have h3 : (((l.length - 1 : Nat) : Int) == ((l.length - 1 : Nat) : Int)) = true := by simp
  rw [h3] at h1
  cases h4 : ((l.getD (l.length - 1) (0, 0, 0)).1 == 25)
  · rw [h4] at h1; cases h1
  · exact eq_of_beq h4
theorem Fine.jump {l : List Ins} {m h : List Int} (hF : Fine l m h) {i : Nat} (hi : i < l.length) (hj : opAt l i = 19 ∨ opAt l i = 20) : jumpTo l i < l.length ∧ homeAt l m (jumpTo l i) = homeAt l m i := by
  have h1 := hF.jumps i hi
  unfold jumpQ at h1
  rw [if_pos hj] at h1
  rw [Bool.and_eq_true, decide_eq_true_eq, beq_iff_eq] at h1
  refine ⟨h1.1, ?_⟩
  rw [← hF.nest.home i hi, ← hF.nest.home _ h1.1]
  exact h1.2
theorem Fine.next {l : List Ins} {m h : List Int} (hF : Fine l m h) {i : Nat} (hi : i < l.length) : ∀ k ∈ nextsI l i, k < l.length := by
  intro k hk
  unfold nextsI at hk
  split at hk
  · rename_i h1
    rw [List.mem_singleton] at hk
    subst hk
    exact (hF.jump hi (.inl h1)).1
  · split at hk
    · rename_i h1 h2
      rw [List.mem_cons, List.mem_singleton] at hk
      rcases hk with rfl | rfl
      · exact hF.succ hi (by omega)
      · exact (hF.jump hi (.inr h2)).1
    · split at hk
      · cases hk
      · rename_i h3
        rw [List.mem_singleton] at hk
        subst hk
        exact hF.succ hi h3
theorem foldl_ok {l : List Ins} {t : ByteArray} (ht : t.size ≤ 16) : ∀ (ks : List Nat) {f : Flow}, FlowI l f → FlowI l (ks.foldl (fun f k => handI k t f) f)
  | [], f, h => h
  | k :: ks, f, h => foldl_ok ht ks (handI_ok h k ht)
theorem flowStep_ok {l : List Ins} {m : List Int} {i : Nat} {f f' : Flow} (h : FlowI l f) (hs : flowStep l m i f = .inr f') : FlowI l f' := by
  unfold flowStep at hs
  split at hs
  · cases hs
  · split at hs
    · cases hs
    · split at hs
      · cases hs
      · split at hs
        · cases hs
        · cases hs
          exact foldl_ok (after_size _ _) _ h
theorem stacks_step (n : Nat) (hn : 3 < n) (hn2 : n < 1000000) {l : List Ins} {m h : List Int} (hF : Fine l m h) (F : ((List Int) × (List (Int × (Int × Int))) × Int × Int × (List ByteArray) × (List Bool) × (List Bool)) → Option (((((List ByteArray) × Int × Unit) × (((List ByteArray) × (List Bool) × (List Bool) × Unit) × Unit)) ⊕ (Unit × (((List ByteArray) × (List Bool) × (List Bool) × Unit) × Unit))))) {f : Flow} (hf : FlowI l f) {i : Nat} (hi : i < l.length) :
    Kq4.b3 n F m l (l.length : Int) (i : Int) f.1 f.2.1 f.2.2 = match flowStep l m i f with
      | .inl e => some (.inl (([], e, ()), ((f.1, f.2.1, f.2.2, ()), ())))
      | .inr f' => F (m, l, (l.length : Int), ((i + 1 : Nat) : Int), f'.1, f'.2.1, f'.2.2) := by
  obtain ⟨l1, l2⟩ := hF.len
  have ha := hf.a
  have hb := hf.b
  have hc := hf.c
  have hr := hF.right hi
  have hm : opAt l i = 22 → ∃ j : Nat, m.getD i 0 = (j : Int) ∧ j < l.length := fun h22 => by
    obtain ⟨k, k1, k2, _⟩ := hF.closed.cl i hi (.inl h22)
    exact ⟨k, k1, by omega⟩
  have hnx := hF.next hi
  have hjx := fun hj => (hF.jump hi hj).1
  have hjw := fun hj => jump_ix (by omega) hi hr hj
  unfold Kq4.b3 Kq4.j1 flowStep
  simp only [Int.toNat_natCast]
  rw [if_pos (decide_eq_true (by omega)), if_pos (in_ix hi), if_pos (in_ix (by omega)), if_pos (in_ix (by omega)), next_ix (by omega)]
  rcases Bool.eq_false_or_eq_true (f.2.1.getD i false) with h1 | h1
  · rw [h1, if_neg (show ¬ (!true) = true by decide), if_neg (show ¬ true = false by decide), if_pos (in_ix (by omega))]
    rcases Bool.eq_false_or_eq_true (f.2.2.getD i false) with h2 | h2
    · rw [h2, if_pos rfl, if_pos rfl]
      rfl
    · rw [h2, if_neg (show ¬ false = true by decide), if_neg (show ¬ false = true by decide)]
      have key : (afterI (l.getD i (0, 0, 0)) (f.1.getD i ByteArray.empty)).1.size ≤ 16 := after_size _ _
      have tail : ((types_after.f n ((l.getD i (0, 0, 0)).1, ((l.getD i (0, 0, 0)).2.1, (l.getD i (0, 0, 0)).2.2)) (f.1.getD i ByteArray.empty)).bind fun y19 => (if (y19.2 != 0) then (if (y19.2 != 0) then (some (.inl (([], y19.2, ()), ((f.1, f.2.1, f.2.2, ()), ())))) else (F (m, l, (l.length : Int), ((i + 1 : Nat) : Int), f.1, f.2.1, f.2.2))) else ((Kq4.j2 n (i : Int) y19.1 f.1 f.2.1 f.2.2 (l.getD i (0, 0, 0)).1 (l.getD i (0, 0, 0)).2.1 (l.getD i (0, 0, 0)).2.2).bind fun y20 => (if (y20.2.2.2.2.2.1 == 19) then ((Kq4.j0 n (IntKind.wrap .i64 ((IntKind.wrap .i64 (y20.1 + 1)) + y20.2.2.2.2.2.2.1)) y20.2.1 y20.2.2.1 y20.2.2.2.1 y20.2.2.2.2.1).bind fun y21 => (if (decide (0 ≤ y21.1) && decide (y21.1 < (y21.2.2.2.1.length : Int))) then (if (decide (0 ≤ y21.1) && decide (y21.1 < (y21.2.2.1.length : Int))) then (F (m, l, (l.length : Int), ((i + 1 : Nat) : Int), (y21.2.2.1.set y21.1.toNat y21.2.1), (y21.2.2.2.1.set y21.1.toNat true), y21.2.2.2.2)) else none) else none)) else (if (y20.2.2.2.2.2.1 == 20) then ((Kq4.j0 n (IntKind.wrap .i64 ((IntKind.wrap .i64 (y20.1 + 1)) + y20.2.2.2.2.2.2.1)) y20.2.1 y20.2.2.1 y20.2.2.2.1 y20.2.2.2.2.1).bind fun y22 => (if (decide (0 ≤ y22.1) && decide (y22.1 < (y22.2.2.2.1.length : Int))) then (if (decide (0 ≤ y22.1) && decide (y22.1 < (y22.2.2.1.length : Int))) then (F (m, l, (l.length : Int), ((i + 1 : Nat) : Int), (y22.2.2.1.set y22.1.toNat y22.2.1), (y22.2.2.2.1.set y22.1.toNat true), y22.2.2.2.2)) else none) else none)) else (F (m, l, (l.length : Int), ((i + 1 : Nat) : Int), y20.2.2.1, y20.2.2.2.1, y20.2.2.2.2.1))))))) = match (if (afterI (l.getD i (0, 0, 0)) (f.1.getD i ByteArray.empty)).2 ≠ 0 then Sum.inl (afterI (l.getD i (0, 0, 0)) (f.1.getD i ByteArray.empty)).2
          else Sum.inr ((nextsI l i).foldl (fun g k => handI k (afterI (l.getD i (0, 0, 0)) (f.1.getD i ByteArray.empty)).1 g) f) : Int ⊕ Flow) with
        | .inl e => some (.inl (([], e, ()), ((f.1, f.2.1, f.2.2, ()), ())))
        | .inr f' => F (m, l, (l.length : Int), ((i + 1 : Nat) : Int), f'.1, f'.2.1, f'.2.2) := by
        have hA := after_is n hn hn2 (o := (l.getD i (0, 0, 0)).1) (A := (l.getD i (0, 0, 0)).2.1) (B := (l.getD i (0, 0, 0)).2.2) hr (hf.s i)
        rw [hA, Option.bind_some]
        have e0 : ((l.getD i (0, 0, 0)).1, (l.getD i (0, 0, 0)).2.1, (l.getD i (0, 0, 0)).2.2) = l.getD i (0, 0, 0) := rfl
        rw [e0]
        generalize afterI (l.getD i (0, 0, 0)) (f.1.getD i ByteArray.empty) = te at key ⊢
        obtain ⟨t, e⟩ := te
        simp only
        by_cases he : e = 0
        · subst he
          rw [if_neg (by decide), if_neg (by decide)]
          unfold Kq4.j2
          rw [next_ix (by omega)]
          by_cases h19 : (l.getD i (0, 0, 0)).1 = 19
          · have hj := hjw (.inl h19)
            have nx : nextsI l i = [jumpTo l i] := by unfold nextsI; rw [if_pos h19]
            rw [nx, h19, if_neg (by decide), Option.bind_some]
            simp only
            rw [next_ix (by omega), hj, if_pos (show ((19 : Int) == 19) = true from rfl)]
            exact stacks_hand n hf (hjx (.inl h19)) t fun a b c d e => F (m, l, (l.length : Int), ((i + 1 : Nat) : Int), c, d, e)
          · rw [if_pos (bne_iff_ne.2 h19)]
            have b19 : ¬ ((l.getD i (0, 0, 0)).1 == 19) = true := by simpa only [beq_iff_eq] using h19
            by_cases h25 : (l.getD i (0, 0, 0)).1 = 25
            · have nx : nextsI l i = [] := by unfold nextsI opAt; rw [h25]; rfl
              rw [nx, h25, if_neg (by decide), Option.bind_some]
              rfl
            · have hs1 := hF.succ hi h25
              rw [if_pos (bne_iff_ne.2 h25), stacks_hand n hf hs1 t fun a b c d e => some ((i : Int), t, c, d, e, (l.getD i (0, 0, 0)).1, (l.getD i (0, 0, 0)).2.1, (l.getD i (0, 0, 0)).2.2), Option.bind_some]
              simp only
              rw [next_ix (by omega), if_neg b19]
              have hf1 := handI_ok hf (i + 1) key
              by_cases h20 : (l.getD i (0, 0, 0)).1 = 20
              · have nx : nextsI l i = [i + 1, jumpTo l i] := by unfold nextsI; rw [if_neg h19, if_pos h20]
                rw [nx, hjw (.inr h20), h20, if_pos (show ((20 : Int) == 20) = true from rfl)]
                exact stacks_hand n hf1 (hjx (.inr h20)) t fun a b c d e => F (m, l, (l.length : Int), ((i + 1 : Nat) : Int), c, d, e)
              · have nx : nextsI l i = [i + 1] := by unfold nextsI; rw [if_neg h19, if_neg h20, if_neg h25]
                rw [nx, if_neg (show ¬ ((l.getD i (0, 0, 0)).1 == 20) = true by simpa only [beq_iff_eq] using h20)]
                rfl
        · rw [if_pos (bne_iff_ne.2 he), if_pos (bne_iff_ne.2 he), if_pos he]
      by_cases h22 : (l.getD i (0, 0, 0)).1 = 22
      · obtain ⟨j, j1, j2⟩ := hm h22
        rw [if_pos (show ((l.getD i (0, 0, 0)).1 == 22) = true by simpa only [beq_iff_eq] using h22), if_pos (in_ix (by rw [hF.nest.hm]; exact hi))]
        simp only [j1, Int.toNat_natCast]
        rw [if_pos (in_ix (show j < f.1.length by omega))]
        rcases Bool.eq_false_or_eq_true (neB (f.1.getD j ByteArray.empty) (f.1.getD i ByteArray.empty)) with h3 | h3
        · rw [if_pos (show opAt l i = 22 ∧ neB (f.1.getD j ByteArray.empty) (f.1.getD i ByteArray.empty) = true from ⟨h22, h3⟩)]
          unfold neB at h3
          rw [h3, if_pos rfl]
          rfl
        · rw [if_neg (show ¬ (opAt l i = 22 ∧ neB (f.1.getD j ByteArray.empty) (f.1.getD i ByteArray.empty) = true) from fun h => by rw [h3] at h; cases h.2)]
          unfold neB at h3
          rw [h3, if_neg (by decide)]
          exact tail
      · rw [if_neg (show ¬ ((l.getD i (0, 0, 0)).1 == 22) = true by simpa only [beq_iff_eq] using h22), if_neg (fun h => h22 h.1)]
        exact tail
  · rw [h1, if_pos (show (!false) = true from rfl), if_pos rfl]
    rfl
def stacksS (l : List Ins) (m : List Int) : Nat → Nat → Flow → Int ⊕ Flow
  | 0, _, f => .inr f
  | r + 1, i, f => match flowStep l m i f with
    | .inl e => .inl e
    | .inr f => stacksS l m r (i + 1) f
theorem stacks_loop (n : Nat) (hn : 3 < n) (hn2 : n < 1000000) {l : List Ins} {m h : List Int} (hF : Fine l m h) : ∀ (f i : Nat) {s : Flow}, FlowI l s → i ≤ l.length → l.length < f + i → ∃ a b c d e,
    it (fun F (x : (List Int) × (List (Int × (Int × Int))) × Int × Int × (List ByteArray) × (List Bool) × (List Bool)) => Kq4.b3 n F x.1 x.2.1 x.2.2.1 x.2.2.2.1 x.2.2.2.2.1 x.2.2.2.2.2.1 x.2.2.2.2.2.2) f (m, l, (l.length : Int), (i : Int), s.1, s.2.1, s.2.2) = match stacksS l m (l.length - i) i s with
      | .inl z => some (.inl (([], z, ()), ((a, b, c, ()), ())))
      | .inr s' => some (.inr ((), ((s'.1, d, e, ()), ())))
  | 0, i, s, hs, hi, hf => by omega
  | f + 1, i, s, hs, hi, hf => by
    have ih := fun {s : Flow} => stacks_loop n hn hn2 hF f (i + 1) (s := s)
    show ∃ a b c d e, Kq4.b3 n (it _ f) m l (l.length : Int) (i : Int) s.1 s.2.1 s.2.2 = _
    generalize it (fun F (x : (List Int) × (List (Int × (Int × Int))) × Int × Int × (List ByteArray) × (List Bool) × (List Bool)) => Kq4.b3 n F x.1 x.2.1 x.2.2.1 x.2.2.2.1 x.2.2.2.2.1 x.2.2.2.2.2.1 x.2.2.2.2.2.2) f = F at ih ⊢
    rcases Nat.lt_or_ge i l.length with hlt | hge
    · rw [stacks_step n hn hn2 hF F hs hlt, show l.length - i = (l.length - (i + 1)) + 1 by omega]
      simp only [stacksS]
      cases hq : flowStep l m i s with
      | inl e => exact ⟨s.1, s.2.1, s.2.2, [], [], rfl⟩
      | inr s' => exact ih (flowStep_ok hs hq) (by omega) (by omega)
    · have : i = l.length := by omega
      subst this
      unfold Kq4.b3
      rw [if_neg (by simp), Nat.sub_self]
      exact ⟨[], [], [], s.2.1, s.2.2, rfl⟩
def flow0 (l : List Ins) : Flow := (List.replicate l.length ByteArray.empty, (List.replicate l.length false).set 0 true, List.replicate l.length false)
theorem flow0_ok (l : List Ins) : FlowI l (flow0 l) := ⟨by simp [flow0], by simp [flow0], by simp [flow0], fun k => by
  unfold flow0
  simp only [List.getD_eq_getElem?_getD, List.getElem?_replicate]
  split <;> exact Nat.zero_le _⟩
noncomputable def stacksI (l : List Ins) : Int := if wholeI l ≠ 0 then wholeI l else match stacksS l (scanI l).1 l.length 0 (flow0 l) with
  | .inl e => e
  | .inr _ => 0
theorem match_is (n : Nat) (l : List Ins) (hl : l.length < n) (hn : n < 1000000) : nest_Match.f n l = some ((scanI l).1, (scanI l).2.2) := by
  unfold nest_Match.f
  rw [scan_is n l hl hn]
  rfl
theorem stacks_is (n : Nat) (l : List Ins) (hl : l.length < n) (hn3 : 3 < n) (hn : n < 1000000) : ∃ o, Kq4.f n l = some (o, stacksI l) := by
  unfold Kq4.f stacksI
  rw [whole_is n l hl hn, Option.bind_some]
  by_cases hw : wholeI l = 0
  · have hF := whole_fine hw
    have hI := flow0_ok l
    obtain ⟨l1, l2⟩ := hF.len
    obtain ⟨a, b, c, d, e, h⟩ := stacks_loop n hn3 hn hF n 0 hI (Nat.zero_le _) (by omega)
    have c1 : (decide (0 ≤ (l.length : Int)) && ((l.length : Int) == (l.length : Int)) && decide ((l.length : Int) * (16 : Int) ≤ 140737488355328) && decide (1 ≤ 16)) = true := by simp; omega
    have c2 : (decide (0 ≤ (l.length : Int)) && ((l.length : Int) == (l.length : Int)) && decide ((l.length : Int) * (1 : Int) ≤ 140737488355328) && decide (1 ≤ 1)) = true := by simp; omega
    rw [if_neg (fun h => (bne_iff_ne.1 h) hw), match_is n l hl hn, Option.bind_some, if_pos c1, if_pos c2, if_pos c2, if_neg (show ¬ (wholeI l ≠ 0) from fun h => h hw), Int.toNat_natCast]
    have hX : FlowI l (List.replicate l.length ByteArray.empty, List.replicate l.length false, List.replicate l.length false) := ⟨by simp, by simp, by simp, hI.s⟩
    have e0 : handI 0 (ByteArray.mk #[]) (List.replicate l.length ByteArray.empty, List.replicate l.length false, List.replicate l.length false) = flow0 l := by
      unfold handI flow0
      have e1 : (ByteArray.mk #[]) = ByteArray.empty := rfl
      have e2 : (List.replicate l.length false).getD 0 false = false := by
        simp only [List.getD_eq_getElem?_getD, List.getElem?_replicate]
        split <;> rfl
      simp only [e1, List.set_replicate_self, e2]
      rfl
    have h0 := stacks_hand n hX l1 (ByteArray.mk #[]) fun a b c d e => (Kq4.b3.l n ((scanI l).1, l, (l.length : Int), 0, c, d, e)).bind fun y4 => ((Sum.elim (fun (z5 : (((List ByteArray) × Int × Unit) × (((List ByteArray) × (List Bool) × (List Bool) × Unit) × Unit))) => (some (z5.1.1, z5.1.2.1))) (fun (z6 : (Unit × (((List ByteArray) × (List Bool) × (List Bool) × Unit) × Unit))) => (some (z6.2.1.1, (0 : Int))))) y4)
    rw [e0] at h0
    unfold Kq4.b3.l at h0 ⊢
    rw [Nat.sub_zero] at h
    refine Exists.imp (fun o ho => h0.trans ho) ?_
    rw [show ((0 : Nat) : Int) = 0 from rfl] at h
    rw [h]
    cases hq : stacksS l (scanI l).1 l.length 0 (flow0 l) with
    | inl z => exact ⟨[], rfl⟩
    | inr s' => exact ⟨s'.1, rfl⟩
  · rw [if_pos (by simp only [bne_iff_ne, ne_eq]; exact hw), if_pos hw]
    exact ⟨_, rfl⟩
end Go.Proofs.Dk

/- Plain: the stacks of a row, as the document says. -/
namespace Go.Proofs.Dk
open Go
set_option maxRecDepth 100000
set_option linter.unusedVariables false
set_option linter.unusedSimpArgs false
theorem set_same {c : List Bool} {q : Nat} {b : Bool} (h : c.getD q false = b) (hq : q < c.length) : c.set q b = c := by
  rw [List.getD_eq_getElem?_getD, List.getElem?_eq_getElem hq, Option.getD_some] at h
  subst h
  exact List.set_getElem_self hq
end Go.Proofs.Dk

/- Plain: the steps of ways. -/
namespace Go.Proofs.Dk
open Go
set_option maxRecDepth 100000
set_option linter.unusedVariables false
set_option linter.unusedSimpArgs false
theorem right21 {A B : Int} (h : rightI (21, A, B) = true) : 1 ≤ A ∧ A ≤ 1000 := by
  have h1 := (right_is 0 (21, A, B)).symm.trans (opR21 0 A B)
  rw [h] at h1
  by_cases h2 : 1 ≤ A
  · by_cases h3 : A ≤ 1000
    · exact ⟨h2, h3⟩
    · rw [if_pos (decide_eq_true h2), if_neg (by simpa using h3)] at h1
      cases h1
  · rw [if_neg (by simpa using h2)] at h1
    cases h1
def addI (a b : Int) : Int := if 1048577 < a + b then 1048577 else a + b
def loopI (w A : Int) : Int := if addI w 1 = 1048577 then 1048577 else addI 1 (A * addI w 1)
def mN (m : List Int) (i : Nat) : Nat := (m.getD i 0).toNat
def costI (W : Nat → Nat → Int) (l : List Ins) (m : List Int) (i : Nat) : Int := if opAt l i = 21 then loopI (W (i + 1) (mN m i)) (argA l i) else 1
def hopsI (l : List Ins) (m : List Int) (i : Nat) : List Nat := if opAt l i = 21 then [mN m i + 1] else if opAt l i = 19 then [jumpTo l i] else if opAt l i = 20 then [jumpTo l i, i + 1] else [i + 1]
def putI (b : Int → Int → Int) (D : Nat → Int) (k : Nat) (v : Int) : Nat → Int := fun j => if j = k then (if D k = -1 then v else b (D k) v) else D j
def stepW (b : Int → Int → Int) (W : Nat → Nat → Int) (l : List Ins) (m : List Int) (i : Nat) (D : Nat → Int) : Nat → Int :=
  if D i = -1 then D else (hopsI l m i).foldl (fun g k => putI b g k (addI (D i) (costI W l m i))) D
def runW (b : Int → Int → Int) (W : Nat → Nat → Int) (l : List Ins) (m : List Int) : Nat → Nat → (Nat → Int) → Nat → Int
  | 0, _, D => D
  | r + 1, i, D => runW b W l m r (i + 1) (stepW b W l m i D)
def startW (a : Nat) : Nat → Int := fun j => if j = a then 0 else -1
def wayF (b : Int → Int → Int) (l : List Ins) (m : List Int) : Nat → Nat → Nat → Int
  | 0, _, _ => 0
  | f + 1, a, z => runW b (wayF b l m f) l m (z - a) a (startW a) z
structure Reg (l : List Ins) (m : List Int) (a z : Nat) : Prop where
  le : a ≤ z
  lt : z < l.length
  loop : ∀ i, a ≤ i → i < z → isOpen l i = true → ∃ j : Nat, m.getD i 0 = (j : Int) ∧ i < j ∧ j < z
  jump : ∀ i, a ≤ i → i < z → opAt l i = 19 ∨ opAt l i = 20 → jumpTo l i ≤ z
theorem Fine.reg {l : List Ins} {m h : List Int} (hF : Fine l m h) {p : Nat} (hp : p < l.length) (ho : isOpen l p = true) : Reg l m (p + 1) (mN m p) := by
  obtain ⟨j, j1, j2, j3⟩ := hF.nest.open_ p hp ho
  have hj : mN m p = j := by unfold mN; rw [j1]; rfl
  rw [hj]
  refine ⟨by omega, j3, fun i h1 h2 h3 => ?_, fun i h1 h2 h3 => ?_⟩
  · obtain ⟨q, q1, q2, q3⟩ := hF.nest.open_ i (by omega) h3
    obtain ⟨q', e1, e2⟩ := hF.nest.cross p i j (by omega) h2 hp ho h3 j1
    exact ⟨q, q1, q2, by omega⟩
  · obtain ⟨k1, k2⟩ := hF.jump (show i < l.length by omega) h3
    rcases Nat.lt_or_ge j (jumpTo l i) with hlt | hge
    · exfalso
      have e1 : enc l m p i = true := by
        unfold enc
        rw [ho, j1]
        simp; omega
      have e2 : enc l m p (jumpTo l i) = false := by
        unfold enc
        rw [ho, j1]
        simp; omega
      rcases home_cases l m i with hh | ⟨q, hh⟩
      · rw [enc_none hh p] at e1; cases e1
      · obtain ⟨_, _, x3⟩ := enc_home hF.nest (show i < l.length by omega) hh
        obtain ⟨_, _, y3⟩ := enc_home hF.nest k1 (k2.trans hh)
        rw [y3 p, ← x3 p, e1] at e2
        cases e2
    · exact hge
theorem Fine.all {l : List Ins} {m h : List Int} (hF : Fine l m h) : Reg l m 0 (l.length - 1) := by
  obtain ⟨l1, l2⟩ := hF.len
  refine ⟨Nat.zero_le _, by omega, fun i h1 h2 h3 => ?_, fun i h1 h2 h3 => ?_⟩
  · obtain ⟨j, j1, j2, j3, j4, j5⟩ := hF.closed.op_ i (by omega) h3
    refine ⟨j, j1, j2, ?_⟩
    have : j ≠ l.length - 1 := fun e => by
      subst e
      have h5 := hF.last
      have h6 := ends_op (l.getD i (0, 0, 0))
      unfold opAt at h5
      rw [j4] at h5
      omega
    omega
  · have := (hF.jump (show i < l.length by omega) h3).1
    omega
def StepsI (v : Int) : Prop := v = -1 ∨ (0 ≤ v ∧ v ≤ 1048577)
theorem addI_ok {a b : Int} (h1 : 0 ≤ a) (h2 : 0 ≤ b) : 0 ≤ addI a b ∧ addI a b ≤ 1048577 := by
  unfold addI
  split <;> omega
theorem loopI_ok {w A : Int} (hw : StepsI w) (hA : 1 ≤ A ∧ A ≤ 1000) : 0 ≤ loopI w A ∧ loopI w A ≤ 1048577 := by
  have h1 : 0 ≤ addI w 1 ∧ addI w 1 ≤ 1048577 := by
    rcases hw with rfl | h
    · decide
    · exact addI_ok h.1 (by decide)
  unfold loopI
  split
  · omega
  · exact addI_ok (by decide) (Int.mul_nonneg (by omega) h1.1)
def Bet (b : Int → Int → Int) : Prop := ∀ x y, b x y = x ∨ b x y = y
theorem putI_ok {b : Int → Int → Int} (hb : Bet b) {D : Nat → Int} (hD : ∀ k, StepsI (D k)) (k : Nat) {v : Int} (hv : 0 ≤ v ∧ v ≤ 1048577) : ∀ j, StepsI (putI b D k v j) := by
  intro j
  unfold putI
  split
  · split
    · exact .inr hv
    · rcases hb (D k) v with h | h
      · rw [h]; exact hD k
      · rw [h]; exact .inr hv
  · exact hD j
theorem puts_ok {b : Int → Int → Int} (hb : Bet b) {v : Int} (hv : 0 ≤ v ∧ v ≤ 1048577) : ∀ (ks : List Nat) {D : Nat → Int}, (∀ k, StepsI (D k)) → ∀ k, StepsI (ks.foldl (fun g k => putI b g k v) D k)
  | [], D, hD => hD
  | k :: ks, D, hD => puts_ok hb hv ks (putI_ok hb hD k hv)
theorem costI_ok {W : Nat → Nat → Int} {l : List Ins} {m : List Int} {i : Nat} (hr : rightI (l.getD i (0, 0, 0)) = true) (hW : opAt l i = 21 → StepsI (W (i + 1) (mN m i))) : 0 ≤ costI W l m i ∧ costI W l m i ≤ 1048577 := by
  unfold costI
  split
  · rename_i h
    refine loopI_ok (hW h) ?_
    unfold argA
    unfold opAt at h
    generalize l.getD i (0, 0, 0) = x at *
    obtain ⟨o, A, B⟩ := x
    simp only at h
    subst h
    exact right21 hr
  · omega
theorem stepW_ok {b : Int → Int → Int} (hb : Bet b) {W : Nat → Nat → Int} {l : List Ins} {m : List Int} {i : Nat} {D : Nat → Int} (hD : ∀ k, StepsI (D k)) (hr : rightI (l.getD i (0, 0, 0)) = true) (hW : opAt l i = 21 → StepsI (W (i + 1) (mN m i))) : ∀ k, StepsI (stepW b W l m i D k) := by
  unfold stepW
  split
  · exact hD
  · rename_i h
    have hi : 0 ≤ D i := by
      rcases hD i with h1 | h1
      · exact absurd h1 h
      · exact h1.1
    exact puts_ok hb (addI_ok hi (costI_ok hr hW).1) _ hD
theorem runW_ok {b : Int → Int → Int} (hb : Bet b) {W : Nat → Nat → Int} {l : List Ins} {m : List Int} (hr : ∀ i, i < l.length → rightI (l.getD i (0, 0, 0)) = true) : ∀ (r i : Nat) {D : Nat → Int}, (∀ k, StepsI (D k)) → r + i ≤ l.length → (∀ k, i ≤ k → k < r + i → opAt l k = 21 → StepsI (W (k + 1) (mN m k))) → ∀ k, StepsI (runW b W l m r i D k)
  | 0, i, D, hD, hi, hW => hD
  | r + 1, i, D, hD, hi, hW => runW_ok hb hr r (i + 1) (stepW_ok hb hD (hr i (by omega)) (hW i (Nat.le_refl _) (by omega))) (by omega) fun k h1 h2 => hW k (by omega) (by omega)
theorem startW_ok (a : Nat) : ∀ k, StepsI (startW a k) := fun k => by
  unfold startW
  split
  · exact .inr (by decide)
  · exact .inl rfl
theorem wayF_ok {b : Int → Int → Int} (hb : Bet b) {l : List Ins} {m h : List Int} (hF : Fine l m h) : ∀ (f : Nat) {a z : Nat}, Reg l m a z → StepsI (wayF b l m f a z)
  | 0, a, z, hR => .inr (by show 0 ≤ (0 : Int) ∧ (0 : Int) ≤ 1048577; decide)
  | f + 1, a, z, hR => by
    have h1 := hR.le
    have h2 := hR.lt
    exact runW_ok hb (fun i hi => hF.right hi) (z - a) a (startW_ok a) (by omega) (fun k k1 k2 k3 => wayF_ok hb hF f (hF.reg (by omega) (isOpen_iff.2 (.inl k3)))) z
end Go.Proofs.Dk

/- Plain: the steps of ways, by the program. -/
namespace Go.Proofs.Dk
open Go
set_option maxRecDepth 100000
set_option linter.unusedVariables false
set_option linter.unusedSimpArgs false
def bM (x y : Int) : Int := if y > x then y else x
def bL (x y : Int) : Int := if y < x then y else x
theorem bM_bet : Bet bM := fun x y => by
  unfold bM
  split
  · exact .inr rfl
  · exact .inl rfl
theorem bL_bet : Bet bL := fun x y => by
  unfold bL
  split
  · exact .inr rfl
  · exact .inl rfl
theorem costadd_is (n : Nat) {a b : Int} (h1 : -1 ≤ a) (h2 : a ≤ 1048577) (h3 : -1 ≤ b) (h4 : b ≤ 1048577) : cost_add.f n a b = some (addI a b) := by
  unfold cost_add.f addI
  rw [wrap_id (by omega) (by omega)]
structure LD (d : List Int) (D : Nat → Int) (a z : Nat) : Prop where
  len : d.length = z - a + 1
  at_ : ∀ k, a ≤ k → k ≤ z → d.getD (k - a) 0 = D k
theorem LD.put {d : List Int} {D : Nat → Int} {a z : Nat} (h : LD d D a z) (b : Int → Int → Int) {k : Nat} (hk : a ≤ k) (hk2 : k ≤ z) (v : Int) : LD (d.set (k - a) (if d.getD (k - a) 0 = -1 then v else b (d.getD (k - a) 0) v)) (putI b D k v) a z := by
  have hl := h.len
  refine ⟨by rw [List.length_set, hl], fun j h1 h2 => ?_⟩
  rw [getD_set (by omega), h.at_ k hk hk2]
  unfold putI
  by_cases e : j = k
  · subst e
    rw [if_pos rfl, if_pos rfl]
  · rw [if_neg (by omega), if_neg e, h.at_ j h1 h2]

theorem cost_most_is (n : Nat) (x y : Int) : cost_most.f n x y = some (bM x y) := rfl
theorem most_hand (n : Nat) {d : List Int} {k : Nat} (hk : k < d.length) (v : Int) {R : Type} (K : List Int → Option R) :
    (if (decide (0 ≤ (k : Int)) && decide ((k : Int) < (d.length : Int))) = true then (if (d.getD k 0 != (-1)) = true then ((cost_most.f n (d.getD k 0) v).bind fun y => if (decide (0 ≤ (k : Int)) && decide ((k : Int) < (d.length : Int))) = true then K (d.set k y) else none) else (if (decide (0 ≤ (k : Int)) && decide ((k : Int) < (d.length : Int))) = true then K (d.set k v) else none)) else none) = K (d.set k (if d.getD k 0 = -1 then v else bM (d.getD k 0) v)) := by
  simp only [if_pos (in_ix hk), cost_most_is, Option.bind_some]
  by_cases h : d.getD k 0 = -1
  · rw [if_neg (fun h2 => (bne_iff_ne.1 h2) h), if_pos h]
  · rw [if_pos (bne_iff_ne.2 h), if_neg h]
theorem cost_counter_loop_most_is (n : Nat) (W : ((((List (Int × (Int × Int))) × (List Int)) × Int × Int × Unit) × Unit) → Option Int) {l : List Ins} {m : List Int} (hl : l.length < 1000000) (hm : m.length = l.length) {i : Nat} (hi : i < l.length) {w : Int} (hj : m.getD i 0 = ((mN m i : Nat) : Int)) (hW : W (((l, m), ((i + 1 : Nat) : Int), ((mN m i : Nat) : Int), ()), ()) = some w) (hw : StepsI w) (hA : 1 ≤ argA l i ∧ argA l i ≤ 1000) : cost_counter_loop_most.f n W (l, m) (i : Int) = some (loopI w (argA l i)) := by
  unfold cost_counter_loop_most.f loopI
  simp only [Int.toNat_natCast, next_ix (show i < 1000000 by omega), if_pos (in_ix hi), if_pos (in_ix (show i < m.length by omega)), hj, hW, Option.bind_some]
  have hw2 : -1 ≤ w ∧ w ≤ 1048577 := by rcases hw with rfl | h <;> omega
  rw [costadd_is n hw2.1 hw2.2 (by decide) (by decide), Option.bind_some]
  have h1 : 0 ≤ addI w 1 ∧ addI w 1 ≤ 1048577 := by
    rcases hw with rfl | h
    · decide
    · exact addI_ok h.1 (by decide)
  generalize addI w 1 = x at h1 ⊢
  by_cases hx : x = 1048577
  · rw [if_pos (by simpa only [beq_iff_eq] using hx), if_pos hx]
  · rw [if_neg (by simpa only [beq_iff_eq] using hx), if_neg hx]
    unfold argA at hA ⊢
    generalize (l.getD i (0, 0, 0)).2.1 = A at hA ⊢
    have hb : 0 ≤ A * x ∧ A * x ≤ 1000 * 1048577 := ⟨Int.mul_nonneg (by omega) h1.1, Int.mul_le_mul hA.2 h1.2 h1.1 (by decide)⟩
    rw [wrap_id (e := A * x) (by omega) (by omega), wrap_id (by omega) (by omega)]
    rfl
theorem most_j1 (n : Nat) (W : ((((List (Int × (Int × Int))) × (List Int)) × Int × Int × Unit) × Unit) → Option Int) {l : List Ins} {m h : List Int} (hF : Fine l m h) {Wp : Nat → Nat → Int} {a z : Nat} (hR : Reg l m a z) {i : Nat} (hi : a ≤ i) (hi2 : i < z) (hW : opAt l i = 21 → W (((l, m), ((i + 1 : Nat) : Int), ((mN m i : Nat) : Int), ()), ()) = some (Wp (i + 1) (mN m i)) ∧ StepsI (Wp (i + 1) (mN m i))) {d : List Int} {D : Nat → Int} (hL : LD d D a z) (hD : ∀ k, StepsI (D k)) (zz : Int) :
    ∃ d', LD d' (stepW bM Wp l m i D) a z ∧ Kq1.j1 n W zz (i : Int) l m (a : Int) d = some (zz, (i : Int), l, m, (a : Int), d') := by
  obtain ⟨l1, l2⟩ := hF.len
  have hlt := hR.lt
  have hdl := hL.len
  have hat := hL.at_ i hi (by omega)
  have hr := hF.right (show i < l.length by omega)
  have hm := hF.nest.hm
  unfold Kq1.j1
  simp only [cut_ix hi (show i < 1000000 by omega), Int.toNat_natCast, next_ix (show i < 1000000 by omega), if_pos (in_ix (show i < l.length by omega)), if_pos (in_ix (show i < m.length by omega)), if_pos (in_ix (show i - a < d.length by omega)), cut_ix (show a ≤ i + 1 by omega) (show i + 1 < 1000000 by omega), hat]
  by_cases hn : D i = -1
  · refine ⟨d, ?_, ?_⟩
    · unfold stepW
      rw [if_pos hn]
      exact hL
    · rw [if_pos (by simpa only [beq_iff_eq] using hn)]
  · rw [if_neg (by simpa only [beq_iff_eq] using hn)]
    have hDi : 0 ≤ D i ∧ D i ≤ 1048577 := by
      rcases hD i with h1 | h1
      · exact absurd h1 hn
      · exact h1
    by_cases h21 : (l.getD i (0, 0, 0)).1 = 21
    · rw [if_pos (show ((l.getD i (0, 0, 0)).1 == 21) = true by simpa only [beq_iff_eq] using h21)]
      obtain ⟨j, j1, j2, j3⟩ := hR.loop i hi hi2 (isOpen_iff.2 (.inl h21))
      have hj : mN m i = j := by unfold mN; rw [j1]; rfl
      have hA : 1 ≤ argA l i ∧ argA l i ≤ 1000 := by
        unfold argA
        generalize l.getD i (0, 0, 0) = x at *
        obtain ⟨o, A, B⟩ := x
        simp only at h21
        subst h21
        exact right21 hr
      obtain ⟨w1, w2⟩ := hW h21
      have hc : costI Wp l m i = loopI (Wp (i + 1) (mN m i)) (argA l i) := by unfold costI; rw [if_pos h21]
      have hlo := loopI_ok w2 hA
      rw [cost_counter_loop_most_is n W (by omega) hm (by omega) (by rw [hj]; exact j1) w1 w2 hA, Option.bind_some, ← hc]
      rw [← hc] at hlo
      rw [costadd_is n (by omega) hDi.2 (by omega) hlo.2, Option.bind_some]
      simp only [j1, next_ix (show j < 1000000 by omega), cut_ix (show a ≤ j + 1 by omega) (show j + 1 < 1000000 by omega), Int.toNat_natCast]
      refine ⟨_, ?_, most_hand n (show j + 1 - a < d.length by omega) (addI (D i) (costI Wp l m i)) fun d' => some (zz, (i : Int), l, m, (a : Int), d')⟩
      have := hL.put bM (show a ≤ j + 1 by omega) (show j + 1 ≤ z by omega) (addI (D i) (costI Wp l m i))
      unfold stepW hopsI
      rw [if_neg hn, if_pos h21, hj]
      exact this
    · rw [if_neg (show ¬ ((l.getD i (0, 0, 0)).1 == 21) = true by simpa only [beq_iff_eq] using h21)]
      have hc : costI Wp l m i = 1 := by unfold costI; rw [if_neg h21]
      rw [costadd_is n (by omega) hDi.2 (by decide) (by decide)]
      simp only [Option.bind_some]
      by_cases h19 : (l.getD i (0, 0, 0)).1 = 19
      · rw [if_pos (show ((l.getD i (0, 0, 0)).1 == 19) = true by simpa only [beq_iff_eq] using h19)]
        have hjt := hR.jump i hi hi2 (.inl h19)
        have hji : i < jumpTo l i := by unfold jumpTo; omega
        simp only [jump_ix (show l.length < 1000000 by omega) (show i < l.length by omega) hr (.inl h19), cut_ix (show a ≤ jumpTo l i by omega) (show jumpTo l i < 1000000 by omega), Int.toNat_natCast]
        refine ⟨_, ?_, most_hand n (show jumpTo l i - a < d.length by omega) (addI (D i) 1) fun d' => some (zz, (i : Int), l, m, (a : Int), d')⟩
        have := hL.put bM (show a ≤ jumpTo l i by omega) hjt (addI (D i) 1)
        unfold stepW hopsI
        rw [if_neg hn, if_neg h21, if_pos h19, hc]
        exact this
      · rw [if_neg (show ¬ ((l.getD i (0, 0, 0)).1 == 19) = true by simpa only [beq_iff_eq] using h19)]
        by_cases h20 : (l.getD i (0, 0, 0)).1 = 20
        · rw [if_pos (show ((l.getD i (0, 0, 0)).1 == 20) = true by simpa only [beq_iff_eq] using h20)]
          have hjt := hR.jump i hi hi2 (.inr h20)
          have hji : i < jumpTo l i := by unfold jumpTo; omega
          simp only [jump_ix (show l.length < 1000000 by omega) (show i < l.length by omega) hr (.inr h20), cut_ix (show a ≤ jumpTo l i by omega) (show jumpTo l i < 1000000 by omega), Int.toNat_natCast]
          have h1 := hL.put bM (show a ≤ jumpTo l i by omega) hjt (addI (D i) 1)
          have h2 := h1.put bM (show a ≤ i + 1 by omega) (show i + 1 ≤ z by omega) (addI (D i) 1)
          refine ⟨_, ?_, (most_hand n (show jumpTo l i - a < d.length by omega) (addI (D i) 1) fun d1 => (if (decide (0 ≤ ((i + 1 - a : Nat) : Int)) && decide (((i + 1 - a : Nat) : Int) < (d1.length : Int))) = true then (if (d1.getD (i + 1 - a) 0 != (-1)) = true then ((cost_most.f n (d1.getD (i + 1 - a) 0) (addI (D i) 1)).bind fun y => if (decide (0 ≤ ((i + 1 - a : Nat) : Int)) && decide (((i + 1 - a : Nat) : Int) < (d1.length : Int))) = true then some (zz, (i : Int), l, m, (a : Int), d1.set (i + 1 - a) y) else none) else (if (decide (0 ≤ ((i + 1 - a : Nat) : Int)) && decide (((i + 1 - a : Nat) : Int) < (d1.length : Int))) = true then some (zz, (i : Int), l, m, (a : Int), d1.set (i + 1 - a) (addI (D i) 1)) else none)) else none)).trans (most_hand n (by rw [List.length_set]; omega) (addI (D i) 1) fun d' => some (zz, (i : Int), l, m, (a : Int), d'))⟩
          unfold stepW hopsI
          rw [if_neg hn, if_neg h21, if_neg h19, if_pos h20, hc]
          exact h2
        · rw [if_neg (show ¬ ((l.getD i (0, 0, 0)).1 == 20) = true by simpa only [beq_iff_eq] using h20)]
          refine ⟨_, ?_, most_hand n (show i + 1 - a < d.length by omega) (addI (D i) 1) fun d' => some (zz, (i : Int), l, m, (a : Int), d')⟩
          have := hL.put bM (show a ≤ i + 1 by omega) (show i + 1 ≤ z by omega) (addI (D i) 1)
          unfold stepW hopsI
          rw [if_neg hn, if_neg h21, if_neg h19, if_neg h20, hc]
          exact this

end Go.Proofs.Dk

/- Plain: the steps of ways, by the program, on. -/
namespace Go.Proofs.Dk
open Go
set_option maxRecDepth 100000
set_option linter.unusedVariables false
set_option linter.unusedSimpArgs false
def fillI (d : List Int) : Nat → Nat → List Int
  | 0, _ => d
  | r + 1, k => fillI (d.set (k + 1) (-1)) r (k + 1)
theorem fill_len : ∀ (r k : Nat) {d : List Int}, (fillI d r k).length = d.length
  | 0, k, d => rfl
  | r + 1, k, d => (fill_len r (k + 1)).trans (List.length_set ..)
theorem fill_at : ∀ (r k : Nat) {d : List Int} (j : Nat), k + r < d.length → (fillI d r k).getD j 0 = if k < j ∧ j ≤ k + r then -1 else d.getD j 0
  | 0, k, d, j, h => by rw [if_neg (by omega)]; rfl
  | r + 1, k, d, j, h => by
    rw [show fillI d (r + 1) k = fillI (d.set (k + 1) (-1)) r (k + 1) from rfl, fill_at r (k + 1) j (by rw [List.length_set]; omega), getD_set (by omega)]
    by_cases h1 : k + 1 < j ∧ j ≤ k + 1 + r
    · rw [if_pos h1, if_pos (by omega)]
    · rw [if_neg h1]
      by_cases h2 : j = k + 1
      · rw [if_pos h2, if_pos (by omega)]
      · rw [if_neg h2, if_neg (by omega)]
theorem fill_start {a z : Nat} (h : a ≤ z) : LD (fillI (List.replicate (z - a + 1) 0) (z - a) 0) (startW a) a z := by
  refine ⟨by rw [fill_len, List.length_replicate], fun k h1 h2 => ?_⟩
  rw [fill_at _ _ _ (by rw [List.length_replicate]; omega)]
  unfold startW
  by_cases e : k = a
  · subst e
    rw [if_neg (by omega), if_pos rfl, Nat.sub_self]
    rfl
  · rw [if_pos (by omega), if_neg e]
theorem isub_ix {a z : Nat} (h : a ≤ z) (hz : z < 1000000) : IntKind.wrap .i64 (IntKind.wrap .i64 ((z : Int) - (a : Int)) + 1) = ((z - a + 1 : Nat) : Int) := by
  rw [cut_ix h hz, next_ix (by omega)]

theorem most_fill (n : Nat) (W : ((((List (Int × (Int × Int))) × (List Int)) × Int × Int × Unit) × Unit) → Option Int) {l : List Ins} {m : List Int} {zz aa : Int} {c : Nat} (hc : c < 1000000) : ∀ (f k : Nat) {d : List Int}, d.length = c + 1 → k ≤ c → c < f + k →
    it (fun F (x : Int × Int × Int × (List (Int × (Int × Int))) × (List Int) × Int × (List Int)) => Kq1.b0 n W F x.1 x.2.1 x.2.2.1 x.2.2.2.1 x.2.2.2.2.1 x.2.2.2.2.2.1 x.2.2.2.2.2.2) f (zz, (c : Int), (k : Int), l, m, aa, d) = some (zz, l, m, aa, fillI d (c - k) k)
  | 0, k, d, hd, hk, hf => by omega
  | f + 1, k, d, hd, hk, hf => by
    have ih := fun {d : List Int} => most_fill n W (l := l) (m := m) (zz := zz) (aa := aa) hc f (k + 1) (d := d)
    show Kq1.b0 n W (it _ f) zz (c : Int) (k : Int) l m aa d = _
    generalize it (fun F (x : Int × Int × Int × (List (Int × (Int × Int))) × (List Int) × Int × (List Int)) => Kq1.b0 n W F x.1 x.2.1 x.2.2.1 x.2.2.2.1 x.2.2.2.2.1 x.2.2.2.2.2.1 x.2.2.2.2.2.2) f = F at ih ⊢
    unfold Kq1.b0
    rcases Nat.lt_or_ge k c with hlt | hge
    · rw [if_pos (decide_eq_true (by omega)), next_ix (by omega), if_pos (in_ix (by omega)), Int.toNat_natCast, ih (by rw [List.length_set, hd]) (by omega) (by omega), show c - k = (c - (k + 1)) + 1 by omega]
      rfl
    · have : k = c := by omega
      subst this
      rw [if_neg (by simp), Nat.sub_self]
      rfl
theorem most_run (n : Nat) (W : ((((List (Int × (Int × Int))) × (List Int)) × Int × Int × Unit) × Unit) → Option Int) {l : List Ins} {m h : List Int} (hF : Fine l m h) {Wp : Nat → Nat → Int} {a z : Nat} (hR : Reg l m a z) (hW : ∀ i, a ≤ i → i < z → opAt l i = 21 → W (((l, m), ((i + 1 : Nat) : Int), ((mN m i : Nat) : Int), ()), ()) = some (Wp (i + 1) (mN m i)) ∧ StepsI (Wp (i + 1) (mN m i))) : ∀ (f i : Nat) {d : List Int} {D : Nat → Int}, LD d D a z → (∀ k, StepsI (D k)) → a ≤ i → i ≤ z → z < f + i → ∃ d', LD d' (runW bM Wp l m (z - i) i D) a z ∧
    it (fun F (x : Int × Int × (List (Int × (Int × Int))) × (List Int) × Int × (List Int)) => Kq1.b2 n W F x.1 x.2.1 x.2.2.1 x.2.2.2.1 x.2.2.2.2.1 x.2.2.2.2.2) f ((z : Int), (i : Int), l, m, (a : Int), d) = some ((z : Int), l, m, (a : Int), d')
  | 0, i, d, D, hL, hD, h1, h2, hf => by omega
  | f + 1, i, d, D, hL, hD, h1, h2, hf => by
    have ih := fun {d : List Int} {D : Nat → Int} => most_run n W hF hR hW f (i + 1) (d := d) (D := D)
    show ∃ d', _ ∧ Kq1.b2 n W (it _ f) (z : Int) (i : Int) l m (a : Int) d = _
    generalize it (fun F (x : Int × Int × (List (Int × (Int × Int))) × (List Int) × Int × (List Int)) => Kq1.b2 n W F x.1 x.2.1 x.2.2.1 x.2.2.2.1 x.2.2.2.2.1 x.2.2.2.2.2) f = F at ih ⊢
    obtain ⟨l1, l2⟩ := hF.len
    have hlt := hR.lt
    unfold Kq1.b2
    rcases Nat.lt_or_ge i z with hiz | hge
    · obtain ⟨d1, k1, k2⟩ := most_j1 n W hF hR h1 hiz (hW i h1 hiz) hL hD (z : Int)
      rw [if_pos (decide_eq_true (by omega)), k2, Option.bind_some]
      simp only
      rw [next_ix (by omega), show z - i = (z - (i + 1)) + 1 by omega]
      exact ih k1 (stepW_ok bM_bet hD (hF.right (by omega)) fun h => (hW i h1 hiz h).2) (by omega) (by omega) (by omega)
    · have : i = z := by omega
      subst this
      rw [if_neg (by simp), Nat.sub_self]
      exact ⟨d, hL, rfl⟩
theorem most_s (n : Nat) (W : ((((List (Int × (Int × Int))) × (List Int)) × Int × Int × Unit) × Unit) → Option Int) {l : List Ins} {m h : List Int} (hF : Fine l m h) (hn : l.length < n) {Wp : Nat → Nat → Int} {a z : Nat} (hR : Reg l m a z) (hW : ∀ i, a ≤ i → i < z → opAt l i = 21 → W (((l, m), ((i + 1 : Nat) : Int), ((mN m i : Nat) : Int), ()), ()) = some (Wp (i + 1) (mN m i)) ∧ StepsI (Wp (i + 1) (mN m i))) :
    Kq1.s n W (l, m) (a : Int) (z : Int) = some (runW bM Wp l m (z - a) a (startW a) z) := by
  obtain ⟨l1, l2⟩ := hF.len
  have hle := hR.le
  have hlt := hR.lt
  unfold Kq1.s Kq1.b0.l Kq1.b2.l
  have c1 : (decide (0 ≤ ((z - a + 1 : Nat) : Int)) && (((z - a + 1 : Nat) : Int) == ((z - a + 1 : Nat) : Int)) && decide (((z - a + 1 : Nat) : Int) * (8 : Int) ≤ 140737488355328) && decide (1 ≤ 8)) = true := by simp; omega
  have c2 : (decide (0 ≤ 1) && decide (1 ≤ ((z - a + 1 : Nat) : Int))) = true := by simp; omega
  simp only [isub_ix hle (show z < 1000000 by omega), Int.toNat_natCast, List.length_replicate, Nat.add_sub_cancel]
  have h0 := most_fill n W (l := l) (m := m) (zz := (z : Int)) (aa := (a : Int)) (c := z - a) (by omega) n 0 (d := List.replicate (z - a + 1) 0) (by rw [List.length_replicate]) (Nat.zero_le _) (by omega)
  rw [show ((0 : Nat) : Int) = 0 from rfl, Nat.sub_zero] at h0
  obtain ⟨d', k1, k2⟩ := most_run n W hF hR hW n a (fill_start hle) (startW_ok a) (Nat.le_refl _) hle (by omega)
  rw [if_pos c1, if_pos c2, h0, Option.bind_some]
  simp only
  rw [k2, Option.bind_some]
  simp only [cut_ix hle (show z < 1000000 by omega), Int.toNat_natCast]
  rw [if_pos (in_ix (by rw [k1.len]; omega)), k1.at_ z hle (Nat.le_refl _)]
theorem most_it (n : Nat) {l : List Ins} {m h : List Int} (hF : Fine l m h) (hn : l.length < n) : ∀ (g : Nat) {a z : Nat}, Reg l m a z → z - a < g →
    it (fun (W : ((((List (Int × (Int × Int))) × (List Int)) × Int × Int × Unit) × Unit) → Option Int) x => Kq1.s n W x.1.1 x.1.2.1 x.1.2.2.1) g (((l, m), (a : Int), (z : Int), ()), ()) = some (wayF bM l m g a z)
  | 0, a, z, hR, hg => by omega
  | g + 1, a, z, hR, hg => by
    have hlt := hR.lt
    have ih := fun {a z : Nat} => most_it n hF hn g (a := a) (z := z)
    show Kq1.s n (it _ g) (l, m) (a : Int) (z : Int) = _
    refine most_s n _ hF hn hR fun i h1 h2 h3 => ?_
    have ho := isOpen_iff.2 (Or.inl (b := opAt l i = 23) h3)
    have hRi := hF.reg (show i < l.length by omega) ho
    obtain ⟨j, j1, j2, j3⟩ := hR.loop i h1 h2 ho
    have hj : mN m i = j := by unfold mN; rw [j1]; rfl
    exact ⟨ih hRi (by omega), wayF_ok bM_bet hF g hRi⟩
theorem most_is (n : Nat) {l : List Ins} {m h : List Int} (hF : Fine l m h) (hn : l.length < n) {a z : Nat} (hR : Reg l m a z) : Kq1.f n (l, m) (a : Int) (z : Int) = some (wayF bM l m n a z) := by
  have := hR.lt
  exact most_it n hF hn n hR (by omega)

end Go.Proofs.Dk

/- Plain: each instruction can be reached. -/
namespace Go.Proofs.Dk
open Go
set_option maxRecDepth 100000
set_option linter.unusedVariables false
set_option linter.unusedSimpArgs false
theorem least_of {P : Nat → Prop} : ∀ {n : Nat}, P n → ∃ k, k ≤ n ∧ P k ∧ ∀ j, j < k → ¬ P j := by
  intro n
  induction n using Nat.strongRecOn with
  | _ n ih =>
    intro hn
    by_cases h : ∃ j, j < n ∧ P j
    · obtain ⟨j, j1, j2⟩ := h
      obtain ⟨k, k1, k2, k3⟩ := ih j j1 j2
      exact ⟨k, by omega, k2, k3⟩
    · exact ⟨n, Nat.le_refl _, hn, fun j hj hp => h ⟨j, hj, hp⟩⟩
theorem set_true {s : List Bool} {q k : Nat} (h : (s.set q true).getD k false = true) : s.getD k false = true ∨ k = q := by
  by_cases e : k = q
  · exact .inr e
  · refine .inl ?_
    rw [List.getD_eq_getElem?_getD, List.getElem?_set_ne (fun h => e h.symm)] at h
    rw [List.getD_eq_getElem?_getD]
    exact h
theorem hands_some {t : ByteArray} : ∀ (ks : List Nat) {f : Flow} {k : Nat}, (ks.foldl (fun g q => handI q t g) f).2.1.getD k false = true → f.2.1.getD k false = true ∨ k ∈ ks
  | [], f, k, h => .inl h
  | q :: ks, f, k, h => by
    rcases hands_some ks h with h1 | h1
    · rcases set_true h1 with h2 | h2
      · exact .inl h2
      · exact .inr (by rw [h2]; exact List.mem_cons_self)
    · exact .inr (List.mem_cons_of_mem _ h1)
theorem flowStep_some {l : List Ins} {m : List Int} {i : Nat} {f f' : Flow} (hs : flowStep l m i f = .inr f') : f.2.1.getD i false = true ∧ ∀ k, f'.2.1.getD k false = true → f.2.1.getD k false = true ∨ k ∈ nextsI l i := by
  unfold flowStep at hs
  split at hs
  · cases hs
  · rename_i h1
    refine ⟨by simpa using h1, fun k hk => ?_⟩
    split at hs
    · cases hs
    · split at hs
      · cases hs
      · split at hs
        · cases hs
        · cases hs
          exact hands_some _ hk
theorem stacks_reach {l : List Ins} {m : List Int} : ∀ (r i : Nat) {f f' : Flow}, stacksS l m r i f = .inr f' → (∀ k, f.2.1.getD k false = true → k = 0 ∨ ∃ p, p < i ∧ k ∈ nextsI l p) → ∀ k, i ≤ k → k < i + r → k = 0 ∨ ∃ p, p < k ∧ k ∈ nextsI l p
  | 0, i, f, f', hs, hI, k, h1, h2 => by omega
  | r + 1, i, f, f', hs, hI, k, h1, h2 => by
    simp only [stacksS] at hs
    cases hq : flowStep l m i f with
    | inl e => rw [hq] at hs; cases hs
    | inr f1 =>
      rw [hq] at hs
      obtain ⟨a1, a2⟩ := flowStep_some hq
      by_cases e : k = i
      · subst e
        exact hI k a1
      · refine stacks_reach r (i + 1) hs (fun k hk => ?_) k (by omega) (by omega)
        rcases a2 k hk with h3 | h3
        · rcases hI k h3 with h4 | ⟨p, p1, p2⟩
          · exact .inl h4
          · exact .inr ⟨p, by omega, p2⟩
        · exact .inr ⟨i, by omega, h3⟩
def Come (l : List Ins) : Prop := ∀ k, 0 < k → k < l.length → ∃ p, p < k ∧ k ∈ nextsI l p
theorem come_is {l : List Ins} (h : stacksI l = 0) : wholeI l = 0 ∧ Come l := by
  unfold stacksI at h
  split at h
  · rename_i hw
    exact absurd h hw
  · rename_i hw
    have hw0 : wholeI l = 0 := by
      by_cases e : wholeI l = 0
      · exact e
      · exact absurd e hw
    refine ⟨hw0, fun k k1 k2 => ?_⟩
    cases hq : stacksS l (scanI l).1 l.length 0 (flow0 l) with
    | inl e =>
      rw [hq] at h
      simp only at h
      subst h
      exfalso
      have key : ∀ (r i : Nat) {f : Flow}, stacksS l (scanI l).1 r i f ≠ .inl 0 := by
        intro r
        induction r with
        | zero => intro i f h; cases h
        | succ r ih =>
          intro i f h
          simp only [stacksS] at h
          cases hq : flowStep l (scanI l).1 i f with
          | inr f1 => rw [hq] at h; exact ih (i + 1) h
          | inl e =>
            rw [hq] at h
            cases h
            unfold flowStep at hq
            split at hq
            · cases hq
            · split at hq
              · cases hq
              · split at hq
                · cases hq
                · split at hq
                  · rename_i h5
                    exact h5 (Sum.inl.inj hq)
                  · cases hq
      exact key _ _ hq
    | inr f' =>
      have hI : ∀ k, (flow0 l).2.1.getD k false = true → k = 0 ∨ ∃ p, p < 0 ∧ k ∈ nextsI l p := fun k hk => by
        left
        unfold flow0 at hk
        rcases set_true hk with h2 | h2
        · rw [List.getD_eq_getElem?_getD, List.getElem?_replicate] at h2
          split at h2 <;> cases h2
        · exact h2
      rcases stacks_reach l.length 0 hq hI k (Nat.zero_le _) (by omega) with h1 | h1
      · omega
      · exact h1
theorem Fine.jump_enc {l : List Ins} {m h : List Int} (hF : Fine l m h) {i : Nat} (hi : i < l.length) (hj : opAt l i = 19 ∨ opAt l i = 20) (q : Nat) : enc l m q (jumpTo l i) = enc l m q i := by
  obtain ⟨k1, k2⟩ := hF.jump hi hj
  rcases home_cases l m i with hh | ⟨p, hh⟩
  · rw [enc_none hh q, enc_none (k2.trans hh) q]
  · obtain ⟨_, _, x3⟩ := enc_home hF.nest hi hh
    obtain ⟨_, _, y3⟩ := enc_home hF.nest k1 (k2.trans hh)
    rw [x3 q, y3 q]
theorem enc_iff {l : List Ins} {m : List Int} {q k j : Nat} (ho : isOpen l q = true) (hj : m.getD q 0 = (j : Int)) : enc l m q k = true ↔ q < k ∧ k ≤ j := by
  unfold enc
  rw [ho, hj]
  simp
def RIn (l : List Ins) (m : List Int) (a z k : Nat) : Prop := a ≤ k ∧ k ≤ z ∧ ∀ q, a ≤ q → q < k → opAt l q = 21 → mN m q < k
structure Way (l : List Ins) (m : List Int) (a z : Nat) : Prop where
  reg : Reg l m a z
  out : a = 0 ∨ ∃ p, a = p + 1 ∧ isOpen l p = true ∧ m.getD p 0 = (z : Int)
theorem Fine.way {l : List Ins} {m h : List Int} (hF : Fine l m h) {p : Nat} (hp : p < l.length) (ho : isOpen l p = true) : Way l m (p + 1) (mN m p) := by
  refine ⟨hF.reg hp ho, .inr ⟨p, rfl, ho, ?_⟩⟩
  obtain ⟨j, j1, _⟩ := hF.nest.open_ p hp ho
  unfold mN
  rw [j1]
  rfl
theorem Fine.wayAll {l : List Ins} {m h : List Int} (hF : Fine l m h) : Way l m 0 (l.length - 1) := ⟨hF.all, .inl rfl⟩
theorem pred_in {l : List Ins} {m h : List Int} (hF : Fine l m h) (hS : Come l) {a z : Nat} (hR : Way l m a z) {k : Nat} (hk : RIn l m a z k) (hak : a < k) : ∃ p, RIn l m a z p ∧ p < k ∧ k ∈ hopsI l m p := by
  obtain ⟨k1, k2, k3⟩ := hk
  have hlt := hR.reg.lt
  obtain ⟨p, p1, p2⟩ := hS k (by omega) (by omega)
  have hpl : p < l.length := by omega
  have hcase : k = p + 1 ∨ ((opAt l p = 19 ∨ opAt l p = 20) ∧ k = jumpTo l p) := by
    unfold nextsI at p2
    split at p2
    · rename_i h1
      rw [List.mem_singleton] at p2
      exact .inr ⟨.inl h1, p2⟩
    · split at p2
      · rename_i h1 h2
        rw [List.mem_cons, List.mem_singleton] at p2
        rcases p2 with h3 | h3
        · exact .inl h3
        · exact .inr ⟨.inr h2, h3⟩
      · split at p2
        · cases p2
        · rw [List.mem_singleton] at p2
          exact .inl p2
  have hap : a ≤ p := by
    rcases hcase with h1 | ⟨h1, h2⟩
    · omega
    · rcases hR.out with h3 | ⟨o, o1, o2, o3⟩
      · omega
      · rcases Nat.lt_or_ge p a with h4 | h4
        · exfalso
          have e1 : enc l m o k = true := (enc_iff o2 o3).2 ⟨by omega, k2⟩
          rw [h2, hF.jump_enc hpl h1, enc_iff o2 o3] at e1
          omega
        · exact h4
  by_cases hin : RIn l m a z p
  · refine ⟨p, hin, p1, ?_⟩
    unfold nextsI at p2
    unfold hopsI
    by_cases h21 : opAt l p = 21
    · exfalso
      have hkp : k = p + 1 := by
        rcases hcase with h1 | ⟨h1, _⟩
        · exact h1
        · omega
      have := k3 p hap (by omega) h21
      obtain ⟨j, j1, j2, j3⟩ := hF.nest.open_ p hpl (isOpen_iff.2 (.inl h21))
      unfold mN at this
      rw [j1] at this
      have e : ((j : Int)).toNat = j := rfl
      omega
    · rw [if_neg h21]
      by_cases h19 : opAt l p = 19
      · rw [if_pos h19] at p2 ⊢
        exact p2
      · rw [if_neg h19] at p2 ⊢
        by_cases h20 : opAt l p = 20
        · rw [if_pos h20] at p2 ⊢
          rw [List.mem_cons, List.mem_singleton] at p2 ⊢
          exact p2.symm
        · rw [if_neg h20] at p2 ⊢
          split at p2
          · cases p2
          · exact p2
  · have : ∃ q, a ≤ q ∧ q < p ∧ opAt l q = 21 ∧ p ≤ mN m q := by
      apply Classical.byContradiction
      intro hno
      refine hin ⟨hap, by omega, fun q q1 q2 q3 => ?_⟩
      rcases Nat.lt_or_ge (mN m q) p with h1 | h1
      · exact h1
      · exact absurd ⟨q, q1, q2, q3, h1⟩ hno
    obtain ⟨q0, hq0⟩ := this
    obtain ⟨q, q1, ⟨q2, q3, q4, q5⟩, q6⟩ := least_of (P := fun q => a ≤ q ∧ q < p ∧ opAt l q = 21 ∧ p ≤ mN m q) hq0
    have hqo : isOpen l q = true := isOpen_iff.2 (.inl q4)
    obtain ⟨j, j1, j2, j3⟩ := hF.nest.open_ q (by omega) hqo
    have hj : mN m q = j := by unfold mN; rw [j1]; rfl
    rw [hj] at q5
    have hqk := k3 q q2 (by omega) q4
    rw [hj] at hqk
    refine ⟨q, ⟨q2, by omega, fun q' a1 a2 a3 => ?_⟩, by omega, ?_⟩
    · rcases Nat.lt_or_ge (mN m q') q with h1 | h1
      · exact h1
      · exfalso
        have ho' : isOpen l q' = true := isOpen_iff.2 (.inl a3)
        obtain ⟨j', e1, e2, e3, e4, e5⟩ := hF.closed.op_ q' (by omega) ho'
        have hj' : mN m q' = j' := by unfold mN; rw [e1]; rfl
        rw [hj'] at h1
        have hne : j' ≠ q := fun e => by
          subst e
          rw [close_not e4] at hqo
          cases hqo
        obtain ⟨x, x1, x2⟩ := hF.nest.cross q' q j' a2 (by omega) (by omega) ho' hqo e1
        have : (x : Int) = (j : Int) := x1.symm.trans j1
        exact q6 q' a2 ⟨a1, by omega, a3, by rw [hj']; omega⟩
    · rcases hcase with h1 | ⟨h1, h2⟩
      · unfold hopsI
        rw [if_pos q4, hj, List.mem_singleton]
        omega
      · exfalso
        have e1 : enc l m q p = true := (enc_iff hqo j1).2 ⟨q3, q5⟩
        rw [← hF.jump_enc hpl h1, ← h2, enc_iff hqo j1] at e1
        omega
theorem puts_some {b : Int → Int → Int} (hb : Bet b) {v : Int} (hv : v ≠ -1) : ∀ (ks : List Nat) {D : Nat → Int} {k : Nat}, D k ≠ -1 ∨ k ∈ ks → ks.foldl (fun g k => putI b g k v) D k ≠ -1
  | [], D, k, h => h.elim id fun h => by cases h
  | q :: ks, D, k, h => by
    refine puts_some hb hv ks (D := putI b D q v) ?_
    unfold putI
    by_cases e : k = q
    · left
      rw [if_pos e]
      split
      · exact hv
      · rename_i h1
        rcases hb (D q) v with h2 | h2 <;> rw [h2]
        · exact h1
        · exact hv
    · rw [if_neg e]
      rcases h with h | h
      · exact .inl h
      · rcases List.mem_cons.1 h with h | h
        · exact absurd h e
        · exact .inr h
theorem run_reach {b : Int → Int → Int} (hb : Bet b) {W : Nat → Nat → Int} {l : List Ins} {m h : List Int} (hF : Fine l m h) (hS : Come l) {a z : Nat} (hR : Way l m a z) (hW : ∀ i, a ≤ i → i < z → opAt l i = 21 → StepsI (W (i + 1) (mN m i))) : ∀ (r i : Nat) {D : Nat → Int}, (∀ k, StepsI (D k)) → a ≤ i → i + r = z → (∀ k, RIn l m a z k → k = a ∨ (∃ p, RIn l m a z p ∧ p < i ∧ k ∈ hopsI l m p) → D k ≠ -1) → ∀ k, RIn l m a z k → runW b W l m r i D k ≠ -1
  | 0, i, D, hD, hi, hz, hI, k, hk => by
    refine hI k hk ?_
    by_cases e : k = a
    · exact .inl e
    · obtain ⟨p, p1, p2, p3⟩ := pred_in hF hS hR hk (by have := hk.1; omega)
      exact .inr ⟨p, p1, by have := hk.2.1; omega, p3⟩
  | r + 1, i, D, hD, hi, hz, hI, k, hk => by
    have hlt := hR.reg.lt
    have hWi := hW i hi (by omega)
    have hr := hF.right (show i < l.length by omega)
    refine run_reach hb hF hS hR hW r (i + 1) (stepW_ok hb hD hr hWi) (by omega) (by omega) (fun j hj hp => ?_) k hk
    have old : D j ≠ -1 → stepW b W l m i D j ≠ -1 := fun h => by
      unfold stepW
      split
      · exact h
      · rename_i h1
        have hDi : 0 ≤ D i := by
          rcases hD i with h2 | h2
          · exact absurd h2 h1
          · exact h2.1
        have := addI_ok hDi (costI_ok hr hWi).1
        exact puts_some hb (by omega) _ (.inl h)
    rcases hp with h1 | ⟨p, p1, p2, p3⟩
    · exact old (hI j hj (.inl h1))
    · by_cases e : p = i
      · subst e
        have hDp : D p ≠ -1 := by
          refine hI p p1 ?_
          by_cases e : p = a
          · exact .inl e
          · obtain ⟨p', a1, a2, a3⟩ := pred_in hF hS hR p1 (by omega)
            exact .inr ⟨p', a1, a2, a3⟩
        have hDp0 : 0 ≤ D p := by
          rcases hD p with h2 | h2
          · exact absurd h2 hDp
          · exact h2.1
        unfold stepW
        rw [if_neg hDp]
        have := addI_ok hDp0 (costI_ok hr hWi).1
        exact puts_some hb (by omega) _ (.inr p3)
      · exact old (hI j hj (.inr ⟨p, p1, by omega, p3⟩))
theorem Way.end_in {l : List Ins} {m h : List Int} {a z : Nat} (hR : Way l m a z) : RIn l m a z z := by
  refine ⟨hR.reg.le, Nat.le_refl _, fun q h1 h2 h3 => ?_⟩
  obtain ⟨j, j1, j2, j3⟩ := hR.reg.loop q h1 h2 (isOpen_iff.2 (.inl h3))
  unfold mN
  rw [j1]
  exact j3
theorem way_reach {b : Int → Int → Int} (hb : Bet b) {l : List Ins} {m h : List Int} (hF : Fine l m h) (hS : Come l) (f : Nat) {a z : Nat} (hR : Way l m a z) : 0 ≤ wayF b l m f a z ∧ wayF b l m f a z ≤ 1048577 := by
  have h0 := wayF_ok hb hF f hR.reg
  have hlt := hR.reg.lt
  have hle := hR.reg.le
  cases f with
  | zero => exact ⟨Int.le_refl _, by show (0 : Int) ≤ 1048577; decide⟩
  | succ f =>
    have h1 : wayF b l m (f + 1) a z ≠ -1 := by
      refine run_reach hb hF hS hR (fun i i1 i2 i3 => wayF_ok hb hF f (hF.reg (by omega) (isOpen_iff.2 (.inl i3)))) (z - a) a (startW_ok a) (Nat.le_refl _) (by omega) (fun k hk hp => ?_) z (Way.end_in (h := h) hR)
      rcases hp with e | ⟨p, p1, p2, _⟩
      · subst e
        unfold startW
        rw [if_pos rfl]
        decide
      · have := p1.1
        omega
    rcases h0 with h2 | h2
    · exact absurd h2 h1
    · exact h2
end Go.Proofs.Dk

/- Plain: the steps of ways, as the document says. -/
namespace Go.Proofs.Dk
open Go
set_option maxRecDepth 100000
set_option linter.unusedVariables false
set_option linter.unusedSimpArgs false
structure LQ (d : List Int) (s : List Bool) (D : Nat → Int) (a z : Nat) : Prop where
  dl : d.length = z - a + 1
  sl : s.length = z - a + 1
  at_ : ∀ k, a ≤ k → k ≤ z → d.getD (k - a) 0 = (if D k = -1 then 0 else D k) ∧ s.getD (k - a) false = (D k != -1)
theorem getD_setB {l : List Bool} {i j : Nat} {v d : Bool} (h : i < l.length) : (l.set i v).getD j d = if j = i then v else l.getD j d := getD_set h
theorem LQ.put {d : List Int} {s : List Bool} {D : Nat → Int} {a z : Nat} (h : LQ d s D a z) (b : Int → Int → Int) {k : Nat} (hk : a ≤ k) (hk2 : k ≤ z) {v x : Int} (hx : x = if D k = -1 then v else b (D k) v) (hx0 : x ≠ -1) : LQ (d.set (k - a) x) (s.set (k - a) true) (putI b D k v) a z := by
  have h1 := h.dl
  have h2 := h.sl
  refine ⟨by rw [List.length_set, h1], by rw [List.length_set, h2], fun j j1 j2 => ?_⟩
  rw [getD_set (by omega), getD_setB (by omega)]
  unfold putI
  by_cases e : j = k
  · subst e
    rw [if_pos rfl, if_pos rfl, if_pos rfl, ← hx, if_neg hx0]
    exact ⟨rfl, (bne_iff_ne.2 hx0).symm⟩
  · have e3 : ¬ (j - a = k - a) := by omega
    simp only [e3, e, if_false]
    exact h.at_ j j1 j2
theorem LQ.same {d : List Int} {s : List Bool} {D : Nat → Int} {a z : Nat} (h : LQ d s D a z) (b : Int → Int → Int) {k : Nat} {v : Int} (h1 : D k ≠ -1) (h2 : b (D k) v = D k) : LQ d s (putI b D k v) a z := by
  refine ⟨h.dl, h.sl, fun j j1 j2 => ?_⟩
  unfold putI
  by_cases e : j = k
  · subst e
    rw [if_pos rfl, if_neg h1, h2]
    exact h.at_ j j1 j2
  · rw [if_neg e]
    exact h.at_ j j1 j2
end Go.Proofs.Dk

/- Plain: the steps of ways, as the document says, on. -/
namespace Go.Proofs.Dk
open Go
set_option maxRecDepth 100000
set_option linter.unusedVariables false
set_option linter.unusedSimpArgs false
end Go.Proofs.Dk

/- Plain: steps of rows, sections. -/
namespace Go.Proofs.Dk
open Go
set_option maxRecDepth 100000
set_option linter.unusedVariables false
set_option linter.unusedSimpArgs false
noncomputable def allI (b : Int → Int → Int) (n : Nat) (l : List Ins) : Int × Int :=
  if locksI l ≠ 0 then (0, locksI l) else if stacksI l ≠ 0 then (0, stacksI l)
  else if addI (wayF b l (scanI l).1 n 0 (l.length - 1)) 1 = 1048577 then (0, 4) else (addI (wayF b l (scanI l).1 n 0 (l.length - 1)) 1, 0)
theorem locks_whole {l : List Ins} (h : locksI l = 0) : wholeI l = 0 := by
  unfold locksI at h
  split at h
  · exact h
  · rename_i h1
    by_cases e : wholeI l = 0
    · exact e
    · exact absurd e h1
theorem len1_ix {k : Nat} (h : 0 < k) (h2 : k < 1000000) : IntKind.wrap .i64 ((k : Int) - 1) = ((k - 1 : Nat) : Int) := last_ix h h2

theorem allmost_is (n : Nat) (l : List Ins) (hl : l.length < n) (hn3 : 3 < n) (hn : n < 1000000) : cost_all_most.f n l = some (allI bM n l) := by
  obtain ⟨o1, h1⟩ := locks_is n l hl hn
  obtain ⟨o2, h2⟩ := stacks_is n l hl hn3 hn
  unfold cost_all_most.f allI
  rw [h1, Option.bind_some]
  by_cases hk : locksI l = 0
  · have hw := locks_whole hk
    have hs := whole_scan hw
    have hF := whole_fine hw
    obtain ⟨l1, l2⟩ := hF.len
    rw [if_neg (fun h => (bne_iff_ne.1 h) hk), if_neg (show ¬ (locksI l ≠ 0) from fun h => h hk), h2, Option.bind_some]
    by_cases ht : stacksI l = 0
    · have hS := (come_is ht).2
      rw [if_neg (fun h => (bne_iff_ne.1 h) ht), if_neg (show ¬ (stacksI l ≠ 0) from fun h => h ht), match_is n l hl hn, Option.bind_some]
      simp only
      have hwy := way_reach bM_bet hF hS n hF.wayAll
      have hw1 := most_is n hF hl hF.all
      rw [show ((0 : Nat) : Int) = 0 from rfl] at hw1
      rw [if_neg (fun h => (bne_iff_ne.1 h) hs), len1_ix l1 (by omega), hw1, Option.bind_some, costadd_is n (by omega) hwy.2 (by decide) (by decide), Option.bind_some]
      generalize addI (wayF bM l (scanI l).1 n 0 (l.length - 1)) 1 = w
      by_cases e : w = 1048577
      · rw [if_pos e, if_pos (by simpa only [beq_iff_eq] using e)]
      · rw [if_neg e, if_neg (by simpa only [beq_iff_eq] using e)]
    · rw [if_pos (show (stacksI l != 0) = true from bne_iff_ne.2 ht), if_pos (show (stacksI l != 0) = true from bne_iff_ne.2 ht), if_pos ht]
  · rw [if_pos (show (locksI l != 0) = true from bne_iff_ne.2 hk), if_pos (show (locksI l != 0) = true from bne_iff_ne.2 hk), if_pos hk]

theorem worst_is (n : Nat) (l : List Ins) (hl : l.length < n) (hn3 : 3 < n) (hn : n < 1000000) : cost_Worst.f n l = some (allI bM n l) := by
  unfold cost_Worst.f
  rw [allmost_is n l hl hn3 hn]
  rfl
theorem all_zero {b : Int → Int → Int} {n : Nat} {l : List Ins} (h : (allI b n l).2 = 0) : locksI l = 0 ∧ stacksI l = 0 := by
  unfold allI at h
  by_cases h1 : locksI l = 0
  · rw [if_neg (show ¬ (locksI l ≠ 0) from fun h => h h1)] at h
    by_cases h2 : stacksI l = 0
    · exact ⟨h1, h2⟩
    · rw [if_pos h2] at h
      exact absurd h h2
  · rw [if_pos h1] at h
    exact absurd h h1
end Go.Proofs.Dk

/- Plain: rows in which nothing is left out; sections that are alike. -/
namespace Go.Proofs.Dk
open Go
set_option maxRecDepth 100000
set_option linter.unusedVariables false
set_option linter.unusedSimpArgs false
end Go.Proofs.Dk

/- Plain: longest ways: what stands in a way is no longer than it. -/
namespace Go.Proofs.Dk
open Go
set_option maxRecDepth 100000
set_option linter.unusedVariables false
set_option linter.unusedSimpArgs false
theorem StepsI.nn {v : Int} (h : StepsI v) (h1 : v ≠ -1) : 0 ≤ v ∧ v ≤ 1048577 := h.elim (fun h => absurd h h1) id
theorem addI_le {a b c d : Int} (h : a ≤ b) (k : c ≤ d) : addI a c ≤ addI b d := by unfold addI; split <;> split <;> omega
theorem Reg.hop {l : List Ins} {m : List Int} {a z : Nat} (hR : Reg l m a z) {i : Nat} (h1 : a ≤ i) (h2 : i < z) : hopsI l m i ≠ [] ∧ ∀ k ∈ hopsI l m i, i < k ∧ k ≤ z := by
  unfold hopsI
  by_cases h21 : opAt l i = 21
  · rw [if_pos h21]
    obtain ⟨j, j1, j2, j3⟩ := hR.loop i h1 h2 (isOpen_iff.2 (.inl h21))
    refine ⟨by simp, fun k hk => ?_⟩
    have : k = mN m i + 1 := by simpa using hk
    unfold mN at this
    rw [j1] at this
    simp at this
    omega
  · rw [if_neg h21]
    by_cases h19 : opAt l i = 19
    · rw [if_pos h19]
      have := hR.jump i h1 h2 (.inl h19)
      refine ⟨by simp, fun k hk => ?_⟩
      have e : k = jumpTo l i := by simpa using hk
      subst e
      refine ⟨?_, this⟩
      unfold jumpTo
      omega
    · rw [if_neg h19]
      by_cases h20 : opAt l i = 20
      · rw [if_pos h20]
        have := hR.jump i h1 h2 (.inr h20)
        refine ⟨by simp, fun k hk => ?_⟩
        have e : k = jumpTo l i ∨ k = i + 1 := by simpa using hk
        rcases e with e | e
        · subst e
          refine ⟨?_, this⟩
          unfold jumpTo
          omega
        · omega
      · rw [if_neg h20]
        exact ⟨by simp, fun k hk => by
          have e : k = i + 1 := by simpa using hk
          omega⟩
theorem runW_add {b : Int → Int → Int} {W : Nat → Nat → Int} {l : List Ins} {m : List Int} : ∀ (r s i : Nat) (D : Nat → Int), runW b W l m (r + s) i D = runW b W l m s (i + r) (runW b W l m r i D)
  | 0, s, i, D => by rw [Nat.zero_add]; rfl
  | r + 1, s, i, D => by
    rw [show r + 1 + s = (r + s) + 1 by omega]
    show runW b W l m (r + s) (i + 1) _ = runW b W l m s (i + (r + 1)) (runW b W l m r (i + 1) _)
    rw [runW_add r s (i + 1), show i + 1 + r = i + (r + 1) by omega]
theorem runW_congr {b : Int → Int → Int} {W W' : Nat → Nat → Int} {l : List Ins} {m : List Int} : ∀ (r i : Nat) (D : Nat → Int), (∀ k, i ≤ k → k < i + r → opAt l k = 21 → W (k + 1) (mN m k) = W' (k + 1) (mN m k)) → runW b W l m r i D = runW b W' l m r i D
  | 0, i, D, h => rfl
  | r + 1, i, D, h => by
    have e : costI W l m i = costI W' l m i := by
      unfold costI
      by_cases e : opAt l i = 21
      · rw [if_pos e, if_pos e, h i (Nat.le_refl _) (by omega) e]
      · rw [if_neg e, if_neg e]
    have e2 : stepW b W l m i D = stepW b W' l m i D := by unfold stepW; rw [e]
    show runW b W l m r (i + 1) _ = runW b W' l m r (i + 1) _
    rw [e2]
    exact runW_congr r (i + 1) _ fun k h1 h2 => h k (by omega) (by omega)
theorem wayF_fuel {b : Int → Int → Int} {l : List Ins} {m h : List Int} (hF : Fine l m h) : ∀ (f g : Nat) {a z : Nat}, Reg l m a z → z - a < f → z - a < g → wayF b l m f a z = wayF b l m g a z
  | 0, g, a, z, hR, h1, h2 => by omega
  | f + 1, 0, a, z, hR, h1, h2 => by omega
  | f + 1, g + 1, a, z, hR, h1, h2 => by
    have hle := hR.le
    have hlt := hR.lt
    unfold wayF
    rw [runW_congr (z - a) a (startW a) fun k k1 k2 k3 => ?_]
    obtain ⟨j, j1, j2, j3⟩ := hR.loop k k1 (by omega) (isOpen_iff.2 (.inl k3))
    have hj : mN m k = j := by unfold mN; rw [j1]; rfl
    rw [hj]
    exact wayF_fuel hF f g (hj ▸ hF.reg (by omega) (isOpen_iff.2 (.inl k3))) (by omega) (by omega)
end Go.Proofs.Dk

/- Plain: sections stand in one another. -/
namespace Go.Proofs.Dk
open Go
set_option maxRecDepth 100000
set_option linter.unusedVariables false
set_option linter.unusedSimpArgs false
theorem locks_ok {l : List Ins} (h : locksI l = 0) {i : Nat} (hi : i < l.length) : badI l (scanI l).1 i = false := by
  have hw := locks_whole h
  unfold locksI at h
  rw [if_neg (show ¬ (wholeI l ≠ 0) from fun k => k hw)] at h
  by_cases ha : allF (okQ l (scanI l).1) l.length 0 = true
  · have := allF_iff.1 ha i (Nat.zero_le _) (by omega)
    unfold okQ at this
    simpa using this
  · rw [if_neg ha] at h
    cases h
theorem fine_closed {l : List Ins} (h : locksI l = 0) : Fine l (scanI l).1 (scanI l).2.1 ∧ Closed l (scanI l).1 := ⟨whole_fine (locks_whole h), scanI_closed (whole_scan (locks_whole h))⟩
theorem put_le {D E : Nat → Int} (hD : ∀ k, StepsI (D k)) (hE : ∀ k, StepsI (E k)) (h : ∀ k, (D k = -1 ↔ E k = -1) ∧ D k ≤ E k) {k : Nat} {u v : Int} (huv : u ≤ v) (hu : 0 ≤ u) : ∀ j, (putI bL D k u j = -1 ↔ putI bM E k v j = -1) ∧ putI bL D k u j ≤ putI bM E k v j := fun j => by
  unfold putI
  by_cases e : j = k
  · subst e
    rw [if_pos rfl, if_pos rfl]
    obtain ⟨h1, h2⟩ := h j
    by_cases e2 : D j = -1
    · rw [if_pos e2, if_pos (h1.1 e2)]
      exact ⟨by constructor <;> intro <;> omega, huv⟩
    · have e3 : ¬ E j = -1 := fun k => e2 (h1.2 k)
      rw [if_neg e2, if_neg e3]
      have a1 := ((hD j).nn e2).1
      have a2 := ((hE j).nn e3).1
      unfold bL bM
      split <;> split <;> exact ⟨by constructor <;> intro <;> omega, by omega⟩
  · rw [if_neg e, if_neg e]
    exact h j
theorem puts_le {u v : Int} (huv : u ≤ v) (hu : 0 ≤ u ∧ u ≤ 1048577) (hv : v ≤ 1048577) : ∀ (ks : List Nat) {D E : Nat → Int}, (∀ k, StepsI (D k)) → (∀ k, StepsI (E k)) → (∀ k, (D k = -1 ↔ E k = -1) ∧ D k ≤ E k) → ∀ j, (ks.foldl (fun g k => putI bL g k u) D j = -1 ↔ ks.foldl (fun g k => putI bM g k v) E j = -1) ∧ ks.foldl (fun g k => putI bL g k u) D j ≤ ks.foldl (fun g k => putI bM g k v) E j
  | [], D, E, hD, hE, h, j => h j
  | k :: ks, D, E, hD, hE, h, j => puts_le huv hu hv ks (D := putI bL D k u) (E := putI bM E k v) (putI_ok bL_bet hD k hu) (putI_ok bM_bet hE k ⟨by omega, hv⟩) (put_le hD hE h huv hu.1) j
theorem loopI_le {v w A : Int} (hv : 0 ≤ v) (hvw : v ≤ w) (hw : w ≤ 1048577) (hA : 1 ≤ A) : loopI v A ≤ loopI w A := by
  have key : ∀ x : Int, 0 ≤ x → x ≤ 1048577 → (if x + 1 ≥ 1048577 then loopI x A = 1048577 else loopI x A = min (1 + A * (x + 1)) 1048577) := fun x hx hx2 => by
    unfold loopI
    by_cases h : x + 1 ≥ 1048577
    · rw [if_pos h]
      have : addI x 1 = 1048577 := by unfold addI; split <;> omega
      rw [if_pos this]
    · rw [if_neg h]
      have : addI x 1 = x + 1 := by unfold addI; split <;> omega
      rw [this, if_neg (by omega)]
      unfold addI
      omega
  have k1 := key v hv (by omega)
  have k2 := key w (by omega) hw
  have hm : A * (v + 1) ≤ A * (w + 1) := Int.mul_le_mul_of_nonneg_left (by omega) (by omega)
  have hb : loopI v A ≤ 1048577 := (loopI_cap v A)
  split at k1 <;> split at k2 <;> omega
where
  loopI_cap (v A : Int) : loopI v A ≤ 1048577 := by
    unfold loopI
    split
    · omega
    · unfold addI; split <;> omega
theorem run_le {W W' : Nat → Nat → Int} {l : List Ins} {m : List Int} (hr : ∀ i, i < l.length → rightI (l.getD i (0, 0, 0)) = true) : ∀ (r i : Nat) {D E : Nat → Int}, (∀ k, StepsI (D k)) → (∀ k, StepsI (E k)) → r + i ≤ l.length → (∀ k, i ≤ k → k < r + i → opAt l k = 21 → StepsI (W (k + 1) (mN m k)) ∧ StepsI (W' (k + 1) (mN m k)) ∧ 0 ≤ W (k + 1) (mN m k) ∧ W (k + 1) (mN m k) ≤ W' (k + 1) (mN m k)) → (∀ k, (D k = -1 ↔ E k = -1) ∧ D k ≤ E k) → ∀ j, (runW bL W l m r i D j = -1 ↔ runW bM W' l m r i E j = -1) ∧ runW bL W l m r i D j ≤ runW bM W' l m r i E j
  | 0, i, D, E, hD, hE, hl, hW, h, j => h j
  | r + 1, i, D, E, hD, hE, hl, hW, h, j => by
    have hWi := hW i (Nat.le_refl _) (by omega)
    have hri := hr i (by omega)
    have w1 := costI_ok hri (fun e => (hWi e).1)
    have w2 := costI_ok hri (fun e => (hWi e).2.1)
    have hc : costI W l m i ≤ costI W' l m i := by
      unfold costI
      by_cases e : opAt l i = 21
      · rw [if_pos e, if_pos e]
        obtain ⟨q1, q2, q3, q4⟩ := hWi e
        have hA : 1 ≤ argA l i := by
          have hri' := hri
          rw [show l.getD i (0, 0, 0) = (21, argA l i, (l.getD i (0, 0, 0)).2.2) from by rw [← e]] at hri'
          exact (right21 hri').1
        exact loopI_le q3 q4 (q2.nn (by omega)).2 hA
      · rw [if_neg e, if_neg e]; omega
    refine run_le hr r (i + 1) (stepW_ok bL_bet hD hri (fun e => (hWi e).1)) (stepW_ok bM_bet hE hri (fun e => (hWi e).2.1)) (by omega) (fun k h1 h2 => hW k (by omega) (by omega)) (fun k => ?_) j
    unfold stepW
    by_cases e : D i = -1
    · rw [if_pos e, if_pos ((h i).1.1 e)]
      exact h k
    · have e' : ¬ E i = -1 := fun x => e ((h i).1.2 x)
      rw [if_neg e, if_neg e']
      exact puts_le (addI_le (h i).2 hc) (addI_ok ((hD i).nn e).1 w1.1) (addI_ok ((hE i).nn e').1 w2.1).2 _ hD hE h k
theorem way_le {l : List Ins} {m h : List Int} (hF : Fine l m h) (hS : Come l) : ∀ (f : Nat) {a z : Nat}, Way l m a z → wayF bL l m f a z ≤ wayF bM l m f a z
  | 0, a, z, hR => Int.le_refl _
  | f + 1, a, z, hR => by
    have hlt := hR.reg.lt
    have hle := hR.reg.le
    refine (run_le (fun i hi => hF.right hi) (z - a) a (startW_ok a) (startW_ok a) (by omega) (fun k k1 k2 k3 => ?_) (fun k => ⟨Iff.rfl, Int.le_refl _⟩) z).2
    have hk := hF.way (show k < l.length by omega) (isOpen_iff.2 (.inl k3))
    exact ⟨wayF_ok bL_bet hF f hk.reg, wayF_ok bM_bet hF f hk.reg, (way_reach bL_bet hF hS f hk).1, way_le hF hS f hk⟩
theorem allI_err (n : Nat) (l : List Ins) (h : (allI bM n l).2 = 0) : (allI bL n l).2 = 0 ∧ 1 ≤ (allI bL n l).1 ∧ (allI bL n l).1 ≤ (allI bM n l).1 ∧ (allI bM n l).1 = wayF bM l (scanI l).1 n 0 (l.length - 1) + 1 ∧ (allI bM n l).1 ≤ 1048576 := by
  obtain ⟨h1, h2⟩ := all_zero h
  obtain ⟨hF, hC⟩ := fine_closed h1
  have hS := (come_is h2).2
  have r1 := way_reach bL_bet hF hS n hF.wayAll
  have r2 := way_reach bM_bet hF hS n hF.wayAll
  have r3 := way_le hF hS n hF.wayAll
  unfold allI at h ⊢
  rw [if_neg (show ¬ (locksI l ≠ 0) from fun k => k h1), if_neg (show ¬ (stacksI l ≠ 0) from fun k => k h2)] at h ⊢
  rw [if_neg (show ¬ (locksI l ≠ 0) from fun k => k h1), if_neg (show ¬ (stacksI l ≠ 0) from fun k => k h2)]
  split at h
  · cases h
  · rename_i hne
    rw [if_neg hne]
    unfold addI at hne ⊢
    split at hne
    · exact absurd rfl hne
    · rename_i h5
      rw [if_neg h5, if_neg (show ¬ (1048577 < wayF bL l (scanI l).1 n 0 (l.length - 1) + 1) by omega), if_neg (by omega)]
      exact ⟨rfl, by show 1 ≤ _ + 1; omega, by show _ + 1 ≤ _ + 1; omega, rfl, by show _ + 1 ≤ (1048576 : Int); omega⟩
end Go.Proofs.Dk

/- Plain: rounds; what a task's instructions name. -/
namespace Go.Proofs.Dk
open Go
set_option maxRecDepth 100000
set_option linter.unusedVariables false
set_option linter.unusedSimpArgs false
theorem it_all {X R : Type} {S : (X → Option R) → X → Option R} (Q : Nat → X → R → Prop) (h0 : ∀ x r, ¬ Q 0 x r) (h : ∀ f x F, (∀ y r, Q f y r → F y = some r) → ∀ r, Q (f + 1) x r → S F x = some r) : ∀ f x r, Q f x r → it S f x = some r
  | 0, x, r, hq => absurd hq (h0 x r)
  | f + 1, x, r, hq => h f x (it S f) (it_all Q h0 h f) r hq
abbrev Tsk := Int × Int × Int × Int × List Int × List Int × List Ins
abbrev Img := Int × Int × Int × Int × List Int × List (List Int) × List Tsk
abbrev Tsk.blocks (t : Tsk) : List Int := t.2.2.2.2.1
abbrev Tsk.outs (t : Tsk) : List Int := t.2.2.2.2.2.1
abbrev Tsk.code (t : Tsk) : List Ins := t.2.2.2.2.2.2
abbrev Img.inputs (m : Img) : Int := m.2.2.2.1
abbrev Img.safe (m : Img) : List Int := m.2.2.2.2.1
abbrev Img.blocks (m : Img) : List (List Int) := m.2.2.2.2.2.1
abbrev Img.tasks (m : Img) : List Tsk := m.2.2.2.2.2.2
theorem drop_eq_cons {α : Type} {l : List α} {i : Nat} {d : α} (h : i < l.length) : l.drop i = l.getD i d :: l.drop (i + 1) := by
  rw [List.drop_eq_getElem_cons h, List.getD_eq_getElem?_getD, List.getElem?_eq_getElem h]
  rfl
theorem owns_is (n : Nat) (t : Tsk) (m : Img) (p : Int) (hl : t.outs.length < n) (hn : n < 1000000) : Kq16.f n (t, m) p = some (t.outs.contains p) := by
  unfold Kq16.f Kq16.b0.l
  have := it_all (S := fun F (x : Int × List Int × Int × Int) => Kq16.b0 n F x.1 x.2.1 x.2.2.1 x.2.2.2) (fun f x r => ∃ i : Nat, x = (p, t.outs, (t.outs.length : Int), (i : Int)) ∧ i ≤ t.outs.length ∧ t.outs.length < f + i ∧ r = if (t.outs.drop i).contains p = true then .inl ((true, ()), ()) else .inr ((), ())) (fun x r ⟨i, _, h1, h2, _⟩ => by omega) (fun f x F hF r => ?_) n (p, t.outs, (t.outs.length : Int), 0) _ ⟨0, rfl, Nat.zero_le _, by omega, rfl⟩
  · rw [this, List.drop_zero]
    cases h : t.outs.contains p <;> rfl
  · rintro ⟨i, rfl, h1, h2, rfl⟩
    show Kq16.b0 n F p t.outs (t.outs.length : Int) (i : Int) = _
    unfold Kq16.b0
    rcases Nat.lt_or_ge i t.outs.length with hlt | hge
    · rw [if_pos (decide_eq_true (by omega)), if_pos (in_ix hlt), Int.toNat_natCast, next_ix (by omega), drop_eq_cons (d := (0 : Int)) hlt, List.contains_cons]
      by_cases e : t.outs.getD i 0 = p
      · rw [if_pos (beq_iff_eq.2 e), e, beq_self_eq_true, Bool.true_or, if_pos rfl]
      · rw [if_neg (fun h => e (beq_iff_eq.1 h))]
        have e2 : (p == t.outs.getD i 0) = false := by rw [beq_eq_false_iff_ne]; exact fun h => e h.symm
        rw [e2, Bool.false_or]
        exact hF _ _ ⟨i + 1, rfl, by omega, by omega, rfl⟩
    · have : i = t.outs.length := by omega
      subst this
      rw [if_neg (by simp), List.drop_length]
      rfl
end Go.Proofs.Dk

/- Plain: the instructions' names; a task's blocks. -/
namespace Go.Proofs.Dk
open Go
set_option maxRecDepth 100000
set_option linter.unusedVariables false
set_option linter.unusedSimpArgs false
def nameI (m : Img) (t : Tsk) (i : Ins) : Bool :=
  if i.1 = 15 then decide (i.2.1 < m.inputs) else if i.1 = 16 then t.outs.contains i.2.1 else if i.1 = 17 then decide (i.2.2 < ((m.blocks.getD i.2.1.toNat []).length : Int)) else if i.1 = 18 then decide (i.2.2 < ((m.blocks.getD i.2.1.toNat []).length : Int)) else true
theorem names_j (n : Nat) (t : Tsk) (m : Img) (i : Ins) (ho : t.outs.length < n) (hn : n < 1000000) (hb : i.1 = 17 ∨ i.1 = 18 → 0 ≤ i.2.1 ∧ i.2.1 < (m.blocks.length : Int)) (l : List Ins) (v k : Int) :
    Kq7.j0 n true l v k t.1 t.2.1 t.2.2.1 t.2.2.2.1 t.2.2.2.2.1 t.2.2.2.2.2.1 t.2.2.2.2.2.2 m.1 m.2.1 m.2.2.1 m.2.2.2.1 m.2.2.2.2.1 m.2.2.2.2.2.1 m.2.2.2.2.2.2 i.1 i.2.1 i.2.2 = some (nameI m t i, l, v, k, t.1, t.2.1, t.2.2.1, t.2.2.2.1, t.2.2.2.2.1, t.2.2.2.2.2.1, t.2.2.2.2.2.2, m.1, m.2.1, m.2.2.1, m.2.2.2.1, m.2.2.2.2.1, m.2.2.2.2.2.1, m.2.2.2.2.2.2, i.1, i.2.1, i.2.2) := by
  unfold Kq7.j0 nameI
  by_cases h15 : i.1 = 15
  · rw [if_pos (beq_iff_eq.2 h15), if_pos h15]
  rw [if_neg (fun h => h15 (beq_iff_eq.1 h)), if_neg h15]
  by_cases h16 : i.1 = 16
  · rw [if_pos (beq_iff_eq.2 h16), if_pos h16]
    have := owns_is n t m i.2.1 ho hn
    show ((Kq16.f n (t, m) i.2.1).bind _) = _
    rw [this]; rfl
  rw [if_neg (fun h => h16 (beq_iff_eq.1 h)), if_neg h16]
  by_cases h17 : i.1 = 17
  · have := hb (.inl h17)
    rw [if_pos (beq_iff_eq.2 h17), if_pos h17, if_pos (by rw [decide_eq_true this.1, decide_eq_true this.2]; rfl)]
  rw [if_neg (fun h => h17 (beq_iff_eq.1 h)), if_neg h17]
  by_cases h18 : i.1 = 18
  · have := hb (.inr h18)
    rw [if_pos (beq_iff_eq.2 h18), if_pos h18, if_pos (by rw [decide_eq_true this.1, decide_eq_true this.2]; rfl)]
  rw [if_neg (fun h => h18 (beq_iff_eq.1 h)), if_neg h18]
theorem names_is (n : Nat) (t : Tsk) (m : Img) (hl : t.code.length < n) (ho : t.outs.length < n) (hn : n < 1000000) (hb : ∀ i ∈ t.code, i.1 = 17 ∨ i.1 = 18 → 0 ≤ i.2.1 ∧ i.2.1 < (m.blocks.length : Int)) : Kq7.f n (t, m) = some (if t.code.all (nameI m t) = true then 0 else 12) := by
  unfold Kq7.f Kq7.b1.l
  have := it_all (S := fun F (x : List Ins × Int × Int × Int × Int × Int × Int × List Int × List Int × List Ins × Int × Int × Int × Int × List Int × List (List Int) × List Tsk) => Kq7.b1 n F x.1 x.2.1 x.2.2.1 x.2.2.2.1 x.2.2.2.2.1 x.2.2.2.2.2.1 x.2.2.2.2.2.2.1 x.2.2.2.2.2.2.2.1 x.2.2.2.2.2.2.2.2.1 x.2.2.2.2.2.2.2.2.2.1 x.2.2.2.2.2.2.2.2.2.2.1 x.2.2.2.2.2.2.2.2.2.2.2.1 x.2.2.2.2.2.2.2.2.2.2.2.2.1 x.2.2.2.2.2.2.2.2.2.2.2.2.2.1 x.2.2.2.2.2.2.2.2.2.2.2.2.2.2.1 x.2.2.2.2.2.2.2.2.2.2.2.2.2.2.2.1 x.2.2.2.2.2.2.2.2.2.2.2.2.2.2.2.2)
    (fun f x r => ∃ i : Nat, x = (t.code, (t.code.length : Int), (i : Int), t.1, t.2.1, t.2.2.1, t.2.2.2.1, t.2.2.2.2.1, t.2.2.2.2.2.1, t.2.2.2.2.2.2, m) ∧ i ≤ t.code.length ∧ t.code.length < f + i ∧ r = if (t.code.drop i).all (nameI m t) = true then .inr ((), ((t.1, t.2.1, t.2.2.1, t.2.2.2.1, t.2.2.2.2.1, t.2.2.2.2.2.1, t.2.2.2.2.2.2, m.1, m.2.1, m.2.2.1, m.2.2.2.1, m.2.2.2.2.1, m.2.2.2.2.2.1, m.2.2.2.2.2.2, ()), ())) else .inl ((12, ()), ((t.1, t.2.1, t.2.2.1, t.2.2.2.1, t.2.2.2.2.1, t.2.2.2.2.2.1, t.2.2.2.2.2.2, m.1, m.2.1, m.2.2.1, m.2.2.2.1, m.2.2.2.2.1, m.2.2.2.2.2.1, m.2.2.2.2.2.2, ()), ()))) (fun x r ⟨i, _, h1, h2, _⟩ => by omega) (fun f x F hF r => ?_) n (t.code, (t.code.length : Int), 0, t.1, t.2.1, t.2.2.1, t.2.2.2.1, t.2.2.2.2.1, t.2.2.2.2.2.1, t.2.2.2.2.2.2, m) _ ⟨0, rfl, Nat.zero_le _, by omega, rfl⟩
  · try dsimp only at this ⊢
    rw [this, List.drop_zero]
    cases h : t.code.all (nameI m t) <;> rfl
  · rintro ⟨i, rfl, h1, h2, rfl⟩
    show Kq7.b1 n F t.code (t.code.length : Int) (i : Int) t.1 t.2.1 t.2.2.1 t.2.2.2.1 t.2.2.2.2.1 t.2.2.2.2.2.1 t.2.2.2.2.2.2 m.1 m.2.1 m.2.2.1 m.2.2.2.1 m.2.2.2.2.1 m.2.2.2.2.2.1 m.2.2.2.2.2.2 = _
    unfold Kq7.b1
    rcases Nat.lt_or_ge i t.code.length with hlt | hge
    · have hm : t.code.getD i (0, 0, 0) ∈ t.code := by rw [List.getD_eq_getElem?_getD, List.getElem?_eq_getElem hlt]; exact List.getElem_mem hlt
      rw [if_pos (decide_eq_true (by omega)), if_pos (in_ix hlt), Int.toNat_natCast, names_j n t m _ ho hn (hb _ hm), drop_eq_cons (d := ((0 : Int), (0 : Int), (0 : Int))) hlt, List.all_cons]
      simp only [Option.bind_some]
      cases e : nameI m t (t.code.getD i (0, 0, 0)) with
      | true =>
        rw [if_neg (by simp), next_ix (by omega), Bool.true_and]
        exact hF _ _ ⟨i + 1, rfl, by omega, by omega, rfl⟩
      | false => rfl
    · have : i = t.code.length := by omega
      subst this
      rw [if_neg (by simp), List.drop_length]
      rfl
theorem lock1_len (l : List Ins) (i : Nat) : (lock1 l i).length ≤ 1 := by unfold lock1; split <;> simp
theorem lockF_len (l : List Ins) : ∀ (r i : Nat), (lockF l r i).length ≤ r
  | 0, i => by simp [lockF]
  | r + 1, i => by
    have := lockF_len l r (i + 1)
    have h1 := lock1_len l i
    rw [show lockF l (r + 1) i = lock1 l i ++ lockF l r (i + 1) from rfl, List.length_append]
    omega
theorem lockL_len (l : List Ins) : (lockL l).length ≤ l.length := by
  unfold lockL
  split
  · exact lockF_len l _ _
  · simp
theorem blocks_is (n : Nat) (t : Tsk) (m : Img) (hl : t.code.length < n) (hn3 : 3 < n) (hn : n < 1000000) : Kq10.f n (t, m) = some (if locksI t.code ≠ 0 then locksI t.code else if lockL t.code = t.blocks then 0 else 11) := by
  unfold Kq10.f
  rw [show Kq15.f n ((t, m) : Tsk × Img).1.2.2.2.2.2.2 = some (lockL t.code, locksI t.code) from locks_is2 n t.code hl hn]
  simp only [Option.bind_some]
  by_cases h0 : locksI t.code ≠ 0
  · rw [if_pos (bne_iff_ne.2 h0), if_pos h0]
  rw [if_neg (fun h => h0 (bne_iff_ne.1 h)), if_neg h0]
  by_cases hlen : (lockL t.code).length ≠ t.blocks.length
  · rw [if_pos (show ((((lockL t.code).length : Nat) : Int) != ((t.2.2.2.2.1.length : Nat) : Int)) = true from bne_iff_ne.2 (fun h => hlen (Int.ofNat.inj h))), if_neg (fun h => hlen (by rw [h]))]
  have hlen : (lockL t.code).length = t.blocks.length := Decidable.not_not.1 hlen
  rw [if_neg (show ¬ ((((lockL t.code).length : Nat) : Int) != ((t.2.2.2.2.1.length : Nat) : Int)) = true from fun h => bne_iff_ne.1 h (congrArg Int.ofNat hlen))]
  unfold Kq10.b0.l
  have hk : (lockL t.code).length ≤ t.code.length := lockL_len t.code
  generalize lockL t.code = L at hlen hk
  have := it_all (S := fun F (x : List Int × Int × Int × Int × Int × Int × Int × List Int × List Int × List Ins × Int × Int × Int × Int × List Int × List (List Int) × List Tsk) => Kq10.b0 n F x.1 x.2.1 x.2.2.1 x.2.2.2.1 x.2.2.2.2.1 x.2.2.2.2.2.1 x.2.2.2.2.2.2.1 x.2.2.2.2.2.2.2.1 x.2.2.2.2.2.2.2.2.1 x.2.2.2.2.2.2.2.2.2.1 x.2.2.2.2.2.2.2.2.2.2.1 x.2.2.2.2.2.2.2.2.2.2.2.1 x.2.2.2.2.2.2.2.2.2.2.2.2.1 x.2.2.2.2.2.2.2.2.2.2.2.2.2.1 x.2.2.2.2.2.2.2.2.2.2.2.2.2.2.1 x.2.2.2.2.2.2.2.2.2.2.2.2.2.2.2.1 x.2.2.2.2.2.2.2.2.2.2.2.2.2.2.2.2)
    (fun f x r => ∃ i : Nat, x = (L, (L.length : Int), (i : Int), t.1, t.2.1, t.2.2.1, t.2.2.2.1, t.2.2.2.2.1, t.2.2.2.2.2.1, t.2.2.2.2.2.2, m) ∧ i ≤ L.length ∧ L.length < f + i ∧ r = if L.drop i = t.blocks.drop i then .inr ((), ((t.1, t.2.1, t.2.2.1, t.2.2.2.1, t.2.2.2.2.1, t.2.2.2.2.2.1, t.2.2.2.2.2.2, m.1, m.2.1, m.2.2.1, m.2.2.2.1, m.2.2.2.2.1, m.2.2.2.2.2.1, m.2.2.2.2.2.2, ()), ())) else .inl ((11, ()), ((t.1, t.2.1, t.2.2.1, t.2.2.2.1, t.2.2.2.2.1, t.2.2.2.2.2.1, t.2.2.2.2.2.2, m.1, m.2.1, m.2.2.1, m.2.2.2.1, m.2.2.2.2.1, m.2.2.2.2.2.1, m.2.2.2.2.2.2, ()), ()))) (fun x r ⟨i, _, h1, h2, _⟩ => by omega) (fun f x F hF r => ?_) n (L, (L.length : Int), 0, t.1, t.2.1, t.2.2.1, t.2.2.2.1, t.2.2.2.2.1, t.2.2.2.2.2.1, t.2.2.2.2.2.2, m) _ ⟨0, rfl, Nat.zero_le _, by omega, rfl⟩
  · try dsimp only at this ⊢
    rw [this, List.drop_zero, List.drop_zero]
    by_cases h : L = t.blocks
    · rw [if_pos h, if_pos h]; rfl
    · rw [if_neg h, if_neg h]; rfl
  · rintro ⟨i, rfl, h1, h2, rfl⟩
    show Kq10.b0 n F L (L.length : Int) (i : Int) t.1 t.2.1 t.2.2.1 t.2.2.2.1 t.2.2.2.2.1 t.2.2.2.2.2.1 t.2.2.2.2.2.2 m.1 m.2.1 m.2.2.1 m.2.2.2.1 m.2.2.2.2.1 m.2.2.2.2.2.1 m.2.2.2.2.2.2 = _
    unfold Kq10.b0
    rcases Nat.lt_or_ge i L.length with hlt | hge
    · have hlt2 : i < t.2.2.2.2.1.length := by have : t.blocks.length = t.2.2.2.2.1.length := rfl; omega
      rw [if_pos (decide_eq_true (by omega)), if_pos (in_ix hlt), if_pos (in_ix hlt2), Int.toNat_natCast, drop_eq_cons (d := (0 : Int)) hlt, show t.blocks.drop i = t.2.2.2.2.1.getD i 0 :: t.blocks.drop (i + 1) from drop_eq_cons (d := (0 : Int)) hlt2]
      by_cases e : L.getD i 0 = t.2.2.2.2.1.getD i 0
      · rw [if_neg (fun h => bne_iff_ne.1 h e), next_ix (by omega), e]
        refine hF _ _ ⟨i + 1, rfl, by omega, by omega, ?_⟩
        simp only [List.cons.injEq, true_and]
      · rw [if_pos (bne_iff_ne.2 e), if_neg (fun h => e (List.cons.inj h).1)]
    · have : i = L.length := by omega
      subst this
      rw [if_neg (by simp), List.drop_length, hlen, List.drop_length]
      rfl
end Go.Proofs.Dk

/- Plain: whether an instruction has bytes. -/
namespace Go.Proofs.Dk
open Go
set_option maxRecDepth 100000
set_option linter.unusedVariables false
set_option linter.unusedSimpArgs false
theorem wrap_u64 (n : Int) : IntKind.u64.wrap n = n % 18446744073709551616 := by simp [IntKind.wrap, IntKind.bits, IntKind.signed]
theorem turn_in (n : Nat) (a : Int) : ∃ y, code_turn.f n a = some y ∧ 0 ≤ y ∧ y < 18446744073709551616 := by
  unfold code_turn.f
  refine ⟨_, rfl, ?_, ?_⟩
  · unfold bits
    rw [wrap_u64]
    exact Int.emod_nonneg _ (by decide)
  · unfold bits
    rw [wrap_u64]
    exact Int.emod_lt_of_pos _ (by decide)
theorem put_loop (n : Nat) : ∀ (f g : Nat) (o : List Int) (v : Int), 0 ≤ v → v < 128 ^ g → g < f → o.length + g < 1000 → ∃ o' v', it (fun F (x : List Int × Int) => code_Put.b0 n F x.1 x.2) f (o, v) = some (o', v') ∧ o'.length ≤ o.length + g
  | 0, g, o, v, h0, h1, hg, h2 => by omega
  | f + 1, g, o, v, h0, h1, hg, h2 => by
    have ih := put_loop n f
    show ∃ o' v', code_Put.b0 n (it _ f) o v = some (o', v') ∧ _
    generalize it (fun F (x : List Int × Int) => code_Put.b0 n F x.1 x.2) f = F at ih ⊢
    unfold code_Put.b0
    by_cases h : 128 ≤ v
    · obtain _ | g := g
      · rw [Int.pow_zero] at h1
        omega
      rw [if_pos (decide_eq_true h), if_pos (by rw [decide_eq_true (by omega), decide_eq_true (by omega)]; rfl)]
      have hd : v.tdiv 128 = v / 128 := Int.tdiv_eq_ediv_of_nonneg h0
      have hv : v / 128 < 128 ^ g := by
        rw [Int.pow_succ] at h1
        exact Int.ediv_lt_of_lt_mul (by decide) h1
      obtain ⟨o', v', h3, h4⟩ := ih g (o ++ [(IntKind.wrap .u8 (IntKind.wrap .u64 ((v.tmod 128) + 128)))]) ((IntKind.wrap .u64 (v.tdiv 128))) (by rw [wrap_u64]; exact Int.emod_nonneg _ (by decide)) (by
        rw [wrap_u64, hd]
        exact Int.lt_of_le_of_lt (by omega) hv) (by omega) (by rw [List.length_append]; show _ + 1 + g < 1000; omega)
      rw [List.length_append] at h4
      exact ⟨o', v', h3, by have : [IntKind.u8.wrap (IntKind.u64.wrap (v.tmod 128 + 128))].length = 1 := rfl; omega⟩
    · rw [if_neg (by simpa using h)]
      exact ⟨o, v, rfl, by omega⟩
theorem strNums_size (l : List Int) : (strNums l).size = l.length := by
  unfold strNums ByteArray.size
  simp
theorem put_is (n : Nat) (hn : 10 < n) (a : Int) : ∃ y, code_Put.f n a = some y ∧ y.size ≤ 11 := by
  obtain ⟨u, h1, h2, h3⟩ := turn_in n a
  unfold code_Put.f code_Put.b0.l
  rw [h1, Option.bind_some]
  obtain ⟨o, v, h4, h5⟩ := put_loop n n 10 [] u h2 (Int.lt_trans h3 (by decide)) hn (by decide)
  have h5 : o.length ≤ 10 := by simpa using h5
  rw [h4, Option.bind_some]
  dsimp only
  rw [if_pos (by rw [decide_eq_true (by omega), decide_eq_true (by omega)]; rfl)]
  refine ⟨_, rfl, ?_⟩
  rw [strNums_size, List.length_append]
  show _ + 1 ≤ 11
  omega
theorem of_some (n : Nat) (x : Ins) : ∃ y, op_of.f n x.1 = some y := by
  have h := right_is n x
  unfold op_Right.f at h
  match h2 : op_of.f n x.1 with
  | some y => exact ⟨y, rfl⟩
  | none => rw [h2] at h; cases h
theorem loop_len (y : ByteArray) : ∀ (k i : Nat) (r : List UInt8), y.size - i = k → r.length ≤ (ByteArray.toList.loop y i r).length
  | 0, i, r, h => by
    unfold ByteArray.toList.loop
    rw [if_neg (by omega), List.length_reverse]
    exact Nat.le_refl _
  | k + 1, i, r, h => by
    unfold ByteArray.toList.loop
    rw [if_pos (by omega)]
    have := loop_len y k (i + 1) (y.get! i :: r) (by omega)
    rw [List.length_cons] at this
    omega
theorem nil_list : (ByteArray.mk #[]).toList = [] := by
  unfold ByteArray.toList ByteArray.toList.loop
  rw [if_neg (by decide)]
  rfl
theorem list_ne {y : ByteArray} (h : 0 < y.size) : (y.toList == (ByteArray.mk #[]).toList) = false := by
  rw [nil_list, beq_eq_false_iff_ne]
  intro h1
  have : (ByteArray.toList.loop y 0 []).length = 0 := by
    have : y.toList = ByteArray.toList.loop y 0 [] := rfl
    rw [← this, h1]
    rfl
  unfold ByteArray.toList.loop at this
  rw [if_pos h] at this
  have h2 := loop_len y _ (0 + 1) [y.get! 0] rfl
  rw [this] at h2
  exact absurd h2 (Nat.not_succ_le_zero 0)
theorem encode_is (n : Nat) (hn : 10 < n) (x : Ins) : ∃ y, op_Encode.f n x = some y ∧ y.size ≤ 30 ∧ (y.toList == (ByteArray.mk #[]).toList) = !rightI x := by
  obtain ⟨o, ho⟩ := of_some n x
  obtain ⟨p, hp1, hp2⟩ := put_is n hn x.2.1
  obtain ⟨q, hq1, hq2⟩ := put_is n hn x.2.2
  have hs : (strNums ([(IntKind.wrap .u8 x.1)])).size = 1 := strNums_size _
  unfold op_Encode.f op_Args.f
  have hr : op_Right.f n (x.1, x.2.1, x.2.2) = some (rightI x) := right_is n x
  rw [hr, Option.bind_some]
  cases hb : rightI x with
  | false => exact ⟨_, rfl, by decide, by rw [beq_self_eq_true]; rfl⟩
  | true =>
    rw [if_neg (by simp), ho, hp1, hq1]
    simp only [Option.bind_some]
    split
    · rw [if_pos (decide_eq_true (by omega))]
      split
      · have : (strNums ([(IntKind.wrap .u8 x.1)]) ++ p).size = 1 + p.size := by rw [ByteArray.size_append, hs]
        rw [if_pos (decide_eq_true (by omega))]
        refine ⟨_, rfl, ?_, ?_⟩
        · rw [ByteArray.size_append, this]; omega
        · exact list_ne (by rw [ByteArray.size_append, this]; omega)
      · have : (strNums ([(IntKind.wrap .u8 x.1)]) ++ p).size = 1 + p.size := by rw [ByteArray.size_append, hs]
        exact ⟨_, rfl, by omega, list_ne (by omega)⟩
    · split
      · rw [if_pos (decide_eq_true (by omega))]
        have : (strNums ([(IntKind.wrap .u8 x.1)]) ++ q).size = 1 + q.size := by rw [ByteArray.size_append, hs]
        exact ⟨_, rfl, by omega, list_ne (by omega)⟩
      · exact ⟨_, rfl, by omega, list_ne (by omega)⟩
end Go.Proofs.Dk

/- Plain: whether a task of an image can be. -/
namespace Go.Proofs.Dk
open Go
set_option maxRecDepth 100000
set_option linter.unusedVariables false
set_option linter.unusedSimpArgs false
def Says (o : Option Bool) (p : Prop) : Prop := ∃ b, o = some b ∧ (b = true ↔ p)
theorem Says.dec {p : Prop} [Decidable p] : Says (some (decide p)) p := ⟨_, rfl, decide_eq_true_iff⟩
theorem Says.and {o : Option Bool} {f : Bool → Option Bool} {p q : Prop} (h : Says o p) (k : Says (f true) q) (g : f false = some false) : Says (o.bind f) (p ∧ q) := by
  obtain ⟨b, h1, h2⟩ := h
  obtain ⟨c, k1, k2⟩ := k
  rw [h1]
  cases b with
  | true => exact ⟨c, k1, by rw [k2]; exact ⟨fun e => ⟨h2.1 rfl, e⟩, fun e => e.2⟩⟩
  | false => exact ⟨false, g, ⟨fun e => absurd e (by decide), fun e => absurd (h2.2 e.1) (by decide)⟩⟩
theorem Says.iff {o : Option Bool} {p q : Prop} (h : Says o p) (k : p ↔ q) : Says o q := by
  obtain ⟨b, h1, h2⟩ := h
  exact ⟨b, h1, h2.trans k⟩
theorem Says.no {p : Prop} (h : ¬ p) : Says (some false) p := ⟨false, rfl, fun e => absurd e (by decide), fun e => absurd e h⟩
def Rises (e : Int) : Int → List Int → Prop
  | _, [] => True
  | b, x :: l => b < x ∧ x < e ∧ Rises e x l
theorem rises_is (n : Nat) (l : List Int) (e : Int) (he : 0 ≤ e) (hen : e + 1 < n) (hn : n < 1000000) : Says (image_rises.f n l e) (Rises e (-1) l) := by
  unfold image_rises.f image_rises.b0.l
  have := it_all (S := fun F (x : Int × Int × List Int × Int × Int) => image_rises.b0 n F x.1 x.2.1 x.2.2.1 x.2.2.2.1 x.2.2.2.2) (fun f x r => ∃ (i : Nat) (b : Int) (c : Bool), x = (e, b, l, (l.length : Int), (i : Int)) ∧ (i ≤ l.length ∧ (i : Int) ≤ b + 1 ∧ b < e) ∧ e < b + f ∧ (c = true ↔ Rises e b (l.drop i)) ∧ r = if c = true then .inr ((), ()) else .inl ((false, ()), ())) (fun x r ⟨i, b, c, _, h1, h2, _⟩ => by omega) (fun f x F hF r => ?_) n (e, -1, l, (l.length : Int), 0)
  · classical
    refine ⟨decide (Rises e (-1) l), ?_, decide_eq_true_iff⟩
    rw [this _ ⟨0, -1, decide (Rises e (-1) l), rfl, ⟨Nat.zero_le _, by omega, by omega⟩, by omega, decide_eq_true_iff, rfl⟩]
    cases decide (Rises e (-1) l) <;> rfl
  · rintro ⟨i, b, c, rfl, h1, h2, hc, rfl⟩
    show image_rises.b0 n F e b l (l.length : Int) (i : Int) = _
    unfold image_rises.b0
    rcases Nat.lt_or_ge i l.length with hlt | hge
    · rw [drop_eq_cons (d := (0 : Int)) hlt] at hc
      rw [if_pos (decide_eq_true (by omega)), if_pos (in_ix hlt), Int.toNat_natCast, next_ix (by omega)]
      have hno : ∀ (h : ¬ (b < l.getD i 0 ∧ l.getD i 0 < e)), c = false := fun h => by
        cases c with
        | false => rfl
        | true => exact absurd ⟨(hc.1 rfl).1, (hc.1 rfl).2.1⟩ h
      by_cases g1 : l.getD i 0 ≤ b
      · rw [if_pos (decide_eq_true g1), hno (by omega)]; rfl
      rw [if_neg (by simpa using g1)]
      by_cases g2 : l.getD i 0 ≥ e
      · rw [if_pos (decide_eq_true g2), hno (by omega)]; rfl
      rw [if_neg (by simpa using g2)]
      exact hF _ _ ⟨i + 1, l.getD i 0, c, rfl, by omega, by omega, hc.trans ⟨fun h => h.2.2, fun h => ⟨by omega, by omega, h⟩⟩, rfl⟩
    · have : i = l.length := by omega
      subst this
      rw [List.drop_length] at hc
      rw [if_neg (by simp), if_pos (hc.2 trivial)]
theorem Rises.len {e : Int} : ∀ {l : List Int} {b : Int}, Rises e b l → b < e → (l.length : Int) ≤ e - 1 - b
  | [], b, _, h => by simp; omega
  | x :: l, b, h, h1 => by
    have := Rises.len h.2.2 h.2.1
    have := h.1
    rw [List.length_cons]
    omega
theorem Rises.mem {e : Int} : ∀ {l : List Int} {b : Int}, Rises e b l → ∀ x ∈ l, b < x ∧ x < e
  | x :: l, b, h, y, hy => by
    rcases List.mem_cons.1 hy with rfl | hy
    · exact ⟨h.1, h.2.1⟩
    · have := Rises.mem h.2.2 y hy
      have := h.1
      omega
end Go.Proofs.Dk

/- Plain: places that rise, as the document says; instructions' bytes. -/
namespace Go.Proofs.Dk
open Go
set_option maxRecDepth 100000
set_option linter.unusedVariables false
set_option linter.unusedSimpArgs false
theorem nil_of_size {y : ByteArray} (h : y.size = 0) : y.toList = [] := by
  unfold ByteArray.toList ByteArray.toList.loop
  rw [if_neg (by omega)]
  rfl
noncomputable def catE (n : Nat) (s : ByteArray) (l : List Ins) : ByteArray := l.foldl (fun s x => s ++ (op_Encode.f n x).getD (ByteArray.mk #[])) s
theorem encode_size (n : Nat) (hn : 10 < n) {x : Ins} (hx : rightI x = true) : ∃ y, op_Encode.f n x = some y ∧ 1 ≤ y.size ∧ y.size ≤ 30 := by
  obtain ⟨y, h1, h2, h3⟩ := encode_is n hn x
  refine ⟨y, h1, ?_, h2⟩
  rcases Nat.eq_zero_or_pos y.size with h | h
  · rw [nil_of_size h, nil_list, hx] at h3
    exact absurd h3 (by decide)
  · exact h
theorem catE_size (n : Nat) (hn : 10 < n) : ∀ (l : List Ins) (s : ByteArray), (∀ x ∈ l, rightI x = true) → s.size + l.length ≤ (catE n s l).size
  | [], s, _ => Nat.le_refl _
  | x :: l, s, h => by
    obtain ⟨y, h1, h2, _⟩ := encode_size n hn (h x List.mem_cons_self)
    have := catE_size n hn l (s ++ (op_Encode.f n x).getD (ByteArray.mk #[])) fun y hy => h y (List.mem_cons_of_mem _ hy)
    rw [ByteArray.size_append, h1, Option.getD_some] at this
    show _ ≤ (catE n (s ++ (op_Encode.f n x).getD (ByteArray.mk #[])) l).size
    rw [h1, Option.getD_some, List.length_cons]
    omega
def CodeOk (l : List Ins) : Prop := 1 ≤ l.length ∧ l.length ≤ 200 ∧ ∀ x ∈ l, rightI x = true
theorem code_is (n : Nat) (hn : 200 < n) (l : List Ins) : Says ((op_Code.f n l).bind fun y4 => some (!(y4.toList == (ByteArray.mk #[]).toList))) (CodeOk l) := by
  unfold op_Code.f op_Code.b0.l
  by_cases hl : ¬ l.length ≤ 200
  · rw [if_pos (decide_eq_true (by omega)), Option.bind_some, beq_self_eq_true]
    exact Says.no (fun h => hl h.2.1)
  have hl : l.length ≤ 200 := Decidable.not_not.1 hl
  rw [if_neg (by simp; omega)]
  have := it_all (S := fun F (x : ByteArray × List Ins × Int × Int) => op_Code.b0 n F x.1 x.2.1 x.2.2.1 x.2.2.2) (fun f x r => ∃ (i : Nat) (s : ByteArray), x = (s, l, (l.length : Int), (i : Int)) ∧ i ≤ l.length ∧ l.length < f + i ∧ s.size ≤ 30 * i ∧ r = if (l.drop i).all rightI = true then .inr ((catE n s (l.drop i), ()), ()) else .inl ((ByteArray.mk #[], ()), ())) (fun x r ⟨i, s, _, h1, h2, _⟩ => by omega) (fun f x F hF r => ?_) n (ByteArray.mk #[], l, (l.length : Int), 0) _ ⟨0, _, rfl, Nat.zero_le _, by omega, by decide, rfl⟩
  · rw [this, List.drop_zero, Option.bind_some]
    cases h : l.all rightI with
    | true =>
      have hr : ∀ x ∈ l, rightI x = true := List.all_eq_true.1 h
      have hs := catE_size n (by omega) l (ByteArray.mk #[]) hr
      refine Says.iff (p := 1 ≤ l.length) ?_ ⟨fun h => ⟨h, hl, hr⟩, fun h => h.1⟩
      refine ⟨_, rfl, ?_⟩
      show (!((catE n (ByteArray.mk #[]) l).toList == (ByteArray.mk #[]).toList)) = true ↔ _
      by_cases h1 : 1 ≤ l.length
      · rw [list_ne (by omega)]
        exact ⟨fun _ => h1, fun _ => rfl⟩
      · have : l = [] := List.length_eq_zero_iff.1 (by omega)
        subst this
        rw [show catE n (ByteArray.mk #[]) [] = ByteArray.mk #[] from rfl, beq_self_eq_true]
        exact ⟨fun h => absurd h (by decide), fun h => absurd h h1⟩
    | false =>
      rw [if_neg (by decide)]
      show Says (some (!((ByteArray.mk #[]).toList == (ByteArray.mk #[]).toList))) _
      rw [beq_self_eq_true]
      exact Says.no (fun k => by rw [List.all_eq_true.2 k.2.2] at h; cases h)
  · rintro ⟨i, s, rfl, h1, h2, hs, rfl⟩
    show op_Code.b0 n F s l (l.length : Int) (i : Int) = _
    unfold op_Code.b0
    rcases Nat.lt_or_ge i l.length with hlt | hge
    · obtain ⟨y, e1, e2, e3⟩ := encode_is n (by omega) (l.getD i (0, 0, 0))
      rw [if_pos (decide_eq_true (by omega)), if_pos (in_ix hlt), Int.toNat_natCast, next_ix (by omega), show op_Encode.f n ((l.getD i (0, 0, 0)).1, (l.getD i (0, 0, 0)).2.1, (l.getD i (0, 0, 0)).2.2) = some y from e1, Option.bind_some, e3, drop_eq_cons (d := ((0 : Int), (0 : Int), (0 : Int))) hlt, List.all_cons]
      cases hb : rightI (l.getD i (0, 0, 0)) with
      | false => rfl
      | true =>
        rw [if_neg (by decide), if_pos (decide_eq_true (by omega)), Bool.true_and]
        refine hF _ _ ⟨i + 1, _, rfl, by omega, by omega, by rw [ByteArray.size_append]; omega, ?_⟩
        rw [show catE n s (l.getD i (0, 0, 0) :: l.drop (i + 1)) = catE n (s ++ (op_Encode.f n (l.getD i (0, 0, 0))).getD (ByteArray.mk #[])) (l.drop (i + 1)) from rfl, e1, Option.getD_some]
    · have : i = l.length := by omega
      subst this
      rw [if_neg (by simp), List.drop_length]
      rfl
end Go.Proofs.Dk

/- Plain: whether a task can be. -/
namespace Go.Proofs.Dk
open Go
set_option maxRecDepth 100000
set_option linter.unusedVariables false
set_option linter.unusedSimpArgs false
def NumsOk (t : Tsk) : Prop := (1 ≤ t.1 ∧ t.1 ≤ 100) ∧ (1 ≤ t.2.1 ∧ t.2.1 ≤ 1048576) ∧ (1 ≤ t.2.2.1 ∧ t.2.2.1 ≤ t.2.1) ∧ (0 ≤ t.2.2.2.1 ∧ t.2.2.2.1 ≤ 1048576)
def TaskOk (m : Img) (t : Tsk) : Prop := NumsOk t ∧ Rises m.blocks.length (-1) t.blocks ∧ Rises m.safe.length (-1) t.outs ∧ CodeOk t.code
theorem numbers_is (n : Nat) (t : Tsk) : Says ((image_Task_numbers.f n t).bind fun y1 => some (Sh.eqT (.arr 4 (.int .i64)) y1 [t.1, t.2.1, t.2.2.1, t.2.2.2.1])) (NumsOk t) := by
  obtain ⟨a, b, c, d, t⟩ := t
  unfold image_Task_numbers.f NumsOk
  refine ⟨_, rfl, ?_⟩
  dsimp only
  rw [show ∀ x1 x2 x3 x4 y1 y2 y3 y4 : Int, Sh.eqT (.arr 4 (.int .i64)) [x1, x2, x3, x4] [y1, y2, y3, y4] = (x1 == y1 && (x2 == y2 && (x3 == y3 && (x4 == y4 && true)))) from fun _ _ _ _ _ _ _ _ => rfl]
  simp only [Bool.and_eq_true, beq_iff_eq, and_true]
  constructor
  · rintro ⟨h1, h2, h3, h4⟩
    repeat' split at h1
    all_goals (repeat' split at h4)
    all_goals (rw [h2] at h3; repeat' split at h2)
    all_goals (repeat' split at h3)
    all_goals omega
  · rintro ⟨⟨h1, h2⟩, ⟨h3, h4⟩, ⟨h5, h6⟩, h7, h8⟩
    have e : (if (if 1048576 < b then 1048576 else b) > 1 then (if 1048576 < b then 1048576 else b) else 1) = b := by
      rw [if_neg (show ¬ 1048576 < b by omega)]; split <;> omega
    rw [e, if_neg (show ¬ 100 < a by omega), if_neg (show ¬ b < c by omega), if_neg (show ¬ 1048576 < d by omega)]
    refine ⟨?_, rfl, ?_, ?_⟩ <;> (split <;> omega)
theorem task_right_is (n : Nat) (hn : 200 < n) (hn2 : n < 1000000) (m : Img) (t : Tsk) (hb : m.blocks.length + 1 < n) (ho : m.safe.length + 1 < n) : Says (image_Task_right.f n t m) (TaskOk m t) := by
  obtain ⟨b, h1, h2⟩ := numbers_is n t
  unfold image_Task_right.f
  unfold Option.bind at h1
  rw [show image_Task_numbers.f n (t.1, t.2.1, t.2.2.1, t.2.2.2.1, t.2.2.2.2.1, t.2.2.2.2.2.1, t.2.2.2.2.2.2) = image_Task_numbers.f n t from rfl]
  match hy : image_Task_numbers.f n t with
  | none => rw [hy] at h1; cases h1
  | some y =>
    rw [hy] at h1
    have h1 : Sh.eqT (.arr 4 (.int .i64)) y [t.1, t.2.1, t.2.2.1, t.2.2.2.1] = b := Option.some.inj h1
    rw [Option.bind_some, h1]
    cases b with
    | false => exact Says.no (fun h => by have := h2.2 h.1; cases this)
    | true =>
      rw [if_neg (by decide)]
      have hN : NumsOk t := h2.1 rfl
      by_cases h0 : t.code.length = 0
      · rw [if_pos (show (((t.2.2.2.2.2.2.length : Nat) : Int) == 0) = true from beq_iff_eq.2 (by have : t.code.length = t.2.2.2.2.2.2.length := rfl; omega))]
        exact Says.no (fun h => by have := h.2.2.2.1; omega)
      · rw [if_neg (show ¬ (((t.2.2.2.2.2.2.length : Nat) : Int) == 0) = true from fun h => h0 (by have h := beq_iff_eq.1 h; have : t.code.length = t.2.2.2.2.2.2.length := rfl; omega))]
        refine Says.iff (p := Rises m.blocks.length (-1) t.blocks ∧ Rises m.safe.length (-1) t.outs ∧ CodeOk t.code) ?_ ⟨fun h => ⟨hN, h⟩, fun h => h.2⟩
        exact Says.and (rises_is n t.blocks (m.blocks.length : Int) (by omega) (by omega) hn2) (Says.and (rises_is n t.outs (m.safe.length : Int) (by omega) (by omega) hn2) (code_is n hn t.code) rfl) rfl
end Go.Proofs.Dk

/- Plain: whether an image can be. -/
namespace Go.Proofs.Dk
open Go
set_option maxRecDepth 100000
set_option linter.unusedVariables false
set_option linter.unusedSimpArgs false
def apart : List Int → List Int → Bool
  | _, [] => true
  | s, x :: l => !s.contains x && apart (s ++ [x]) l
def stopS : List Int → List Int → List Int
  | s, [] => s
  | s, x :: l => if s.contains x = true then s else stopS (s ++ [x]) l
theorem stopS_all : ∀ {l s : List Int}, apart s l = true → stopS s l = s ++ l
  | [], s, _ => by simp [stopS]
  | x :: l, s, h => by
    unfold apart at h
    rw [Bool.and_eq_true, Bool.not_eq_true'] at h
    unfold stopS
    rw [if_neg (by rw [h.1]; decide), stopS_all h.2, List.append_assoc]
    rfl
theorem apart_append : ∀ {l k s : List Int}, apart s (l ++ k) = (apart s l && apart (s ++ l) k)
  | [], k, s => by simp [apart]
  | x :: l, k, s => by
    rw [List.cons_append, show apart s (x :: (l ++ k)) = (!s.contains x && apart (s ++ [x]) (l ++ k)) from rfl, show apart s (x :: l) = (!s.contains x && apart (s ++ [x]) l) from rfl, apart_append, Bool.and_assoc, List.append_assoc]
    rfl
def own (s : List Int) : List Bool := (List.range 16).map fun i => s.contains ((i : Nat) : Int)
theorem own_get (s : List Int) {o : Int} (h0 : 0 ≤ o) (h1 : o < 16) : (own s).getD o.toNat false = s.contains o := by
  unfold own
  rw [List.getD_eq_getElem?_getD, List.getElem?_map, List.getElem?_range (by omega)]
  simp [Int.toNat_of_nonneg h0]
theorem own_set (s : List Int) {o : Int} (h0 : 0 ≤ o) (h1 : o < 16) : (own s).set o.toNat true = own (s ++ [o]) := by
  apply List.ext_getElem
  · simp [own]
  · intro i h2 h3
    have hi : i < 16 := by simpa [own] using h3
    rw [List.getElem_set]
    unfold own
    simp only [List.getElem_map, List.getElem_range, List.contains_append]
    by_cases h : o.toNat = i
    · rw [if_pos h]
      have : ((i : Nat) : Int) = o := by omega
      rw [this]
      simp
    · rw [if_neg h]
      have : ((i : Nat) : Int) ≠ o := by omega
      simp [this]
theorem owned_loop (n : Nat) (m : Img) (T : List Tsk) (a k : Int) (l : List Int) (hl : l.length < n) (hn : n < 1000000) (hb : ∀ x ∈ l, 0 ≤ x ∧ x < 16) (s : List Int) : Kq6.b1.l n (T, a, k, l, (l.length : Int), 0, m.1, m.2.1, m.2.2.1, m.2.2.2.1, m.2.2.2.2.1, m.2.2.2.2.2.1, m.2.2.2.2.2.2, own s) = some (if apart s l = true then .inr ((T, a, k, ()), ((m.1, m.2.1, m.2.2.1, m.2.2.2.1, m.2.2.2.2.1, m.2.2.2.2.2.1, m.2.2.2.2.2.2, ()), (own (stopS s l), ()), ())) else .inl ((false, ()), ((m.1, m.2.1, m.2.2.1, m.2.2.2.1, m.2.2.2.2.1, m.2.2.2.2.2.1, m.2.2.2.2.2.2, ()), (own (stopS s l), ()), ()))) := by
  unfold Kq6.b1.l
  refine it_all (S := fun F (x : List Tsk × Int × Int × List Int × Int × Int × Int × Int × Int × Int × List Int × List (List Int) × List Tsk × List Bool) => Kq6.b1 n F x.1 x.2.1 x.2.2.1 x.2.2.2.1 x.2.2.2.2.1 x.2.2.2.2.2.1 x.2.2.2.2.2.2.1 x.2.2.2.2.2.2.2.1 x.2.2.2.2.2.2.2.2.1 x.2.2.2.2.2.2.2.2.2.1 x.2.2.2.2.2.2.2.2.2.2.1 x.2.2.2.2.2.2.2.2.2.2.2.1 x.2.2.2.2.2.2.2.2.2.2.2.2.1 x.2.2.2.2.2.2.2.2.2.2.2.2.2)
    (fun f x r => ∃ (i : Nat) (s : List Int), x = (T, a, k, l, (l.length : Int), (i : Int), m.1, m.2.1, m.2.2.1, m.2.2.2.1, m.2.2.2.2.1, m.2.2.2.2.2.1, m.2.2.2.2.2.2, own s) ∧ i ≤ l.length ∧ l.length < f + i ∧ r = if apart s (l.drop i) = true then .inr ((T, a, k, ()), ((m.1, m.2.1, m.2.2.1, m.2.2.2.1, m.2.2.2.2.1, m.2.2.2.2.2.1, m.2.2.2.2.2.2, ()), (own (stopS s (l.drop i)), ()), ())) else .inl ((false, ()), ((m.1, m.2.1, m.2.2.1, m.2.2.2.1, m.2.2.2.2.1, m.2.2.2.2.2.1, m.2.2.2.2.2.2, ()), (own (stopS s (l.drop i)), ()), ()))) (fun x r ⟨i, s, _, h1, h2, _⟩ => by omega) (fun f x F hF r => ?_) n _ _ ⟨0, s, rfl, Nat.zero_le _, by omega, rfl⟩
  rintro ⟨i, s, rfl, h1, h2, rfl⟩
  show Kq6.b1 n F T a k l (l.length : Int) (i : Int) m.1 m.2.1 m.2.2.1 m.2.2.2.1 m.2.2.2.2.1 m.2.2.2.2.2.1 m.2.2.2.2.2.2 (own s) = _
  unfold Kq6.b1
  rcases Nat.lt_or_ge i l.length with hlt | hge
  · have hm : l.getD i 0 ∈ l := by rw [List.getD_eq_getElem?_getD, List.getElem?_eq_getElem hlt]; exact List.getElem_mem hlt
    obtain ⟨h3, h4⟩ := hb _ hm
    have h5 : (decide (0 ≤ l.getD i 0) && decide (l.getD i 0 < 16)) = true := by rw [decide_eq_true h3, decide_eq_true h4]; rfl
    rw [if_pos (decide_eq_true (by omega)), if_pos (in_ix hlt), Int.toNat_natCast, if_pos h5, own_get s h3 h4, drop_eq_cons (d := (0 : Int)) hlt, next_ix (by omega)]
    unfold apart stopS
    cases h : s.contains (l.getD i 0) with
    | true => rfl
    | false =>
      rw [if_neg (show ¬ (false = true) by decide), if_neg (show ¬ (false = true) by decide), if_pos h5, own_set s h3 h4, Bool.not_false, Bool.true_and]
      exact hF _ _ ⟨i + 1, _, rfl, by omega, by omega, rfl⟩
  · have : i = l.length := by omega
    subst this
    rw [if_neg (by simp), List.drop_length]
    rfl
def TasksOk (m : Img) : List Int → List Tsk → Prop
  | _, [] => True
  | s, t :: l => TaskOk m t ∧ apart s t.outs = true ∧ TasksOk m (s ++ t.outs) l
theorem TasksOk.all {m : Img} : ∀ {l : List Tsk} {s : List Int}, TasksOk m s l ↔ (∀ t ∈ l, TaskOk m t) ∧ apart s (l.flatMap Tsk.outs) = true
  | [], s => by simp [TasksOk, apart]
  | t :: l, s => by
    unfold TasksOk
    rw [TasksOk.all, List.flatMap_cons, apart_append, Bool.and_eq_true, List.forall_mem_cons]
    exact ⟨fun ⟨h1, h2, h3, h4⟩ => ⟨⟨h1, h3⟩, h2, h4⟩, fun ⟨⟨h1, h3⟩, h2, h4⟩ => ⟨h1, h2, h3, h4⟩⟩
open Classical in
noncomputable def stopT (m : Img) : List Int → List Tsk → List Int
  | s, [] => s
  | s, t :: l => if TaskOk m t then (if apart s t.outs = true then stopT m (s ++ t.outs) l else stopS s t.outs) else s
theorem tasks_loop (n : Nat) (hn : 200 < n) (hn2 : n < 1000000) (m : Img) (hbl : m.blocks.length + 1 < n) (hs : m.safe.length ≤ 16) (hT : m.tasks.length < n) :
    Says ((Kq6.b2.l n (m.tasks, (m.tasks.length : Int), 0, m.1, m.2.1, m.2.2.1, m.2.2.2.1, m.2.2.2.2.1, m.2.2.2.2.2.1, m.2.2.2.2.2.2, own [])).bind fun y => Sum.elim (fun z => some z.1.1) (fun z => some true) y) (TasksOk m [] m.tasks) := by
  unfold Kq6.b2.l
  have hit := it_all (S := fun F (x : List Tsk × Int × Int × Int × Int × Int × Int × List Int × List (List Int) × List Tsk × List Bool) => Kq6.b2 n F x.1 x.2.1 x.2.2.1 x.2.2.2.1 x.2.2.2.2.1 x.2.2.2.2.2.1 x.2.2.2.2.2.2.1 x.2.2.2.2.2.2.2.1 x.2.2.2.2.2.2.2.2.1 x.2.2.2.2.2.2.2.2.2.1 x.2.2.2.2.2.2.2.2.2.2)
    (fun f x r => ∃ (i : Nat) (s : List Int) (c : Bool), x = (m.tasks, (m.tasks.length : Int), (i : Int), m.1, m.2.1, m.2.2.1, m.2.2.2.1, m.2.2.2.2.1, m.2.2.2.2.2.1, m.2.2.2.2.2.2, own s) ∧ i ≤ m.tasks.length ∧ m.tasks.length < f + i ∧ (c = true ↔ TasksOk m s (m.tasks.drop i)) ∧ r = if c = true then .inr ((), ((m.1, m.2.1, m.2.2.1, m.2.2.2.1, m.2.2.2.2.1, m.2.2.2.2.2.1, m.2.2.2.2.2.2, ()), (own (stopT m s (m.tasks.drop i)), ()), ())) else .inl ((false, ()), ((m.1, m.2.1, m.2.2.1, m.2.2.2.1, m.2.2.2.2.1, m.2.2.2.2.2.1, m.2.2.2.2.2.2, ()), (own (stopT m s (m.tasks.drop i)), ()), ()))) (fun x r ⟨i, s, c, _, h1, h2, _⟩ => by omega) (fun f x F hF r => ?_) n (m.tasks, (m.tasks.length : Int), 0, m.1, m.2.1, m.2.2.1, m.2.2.2.1, m.2.2.2.2.1, m.2.2.2.2.2.1, m.2.2.2.2.2.2, own [])
  · have := Classical.propDecidable (TasksOk m [] m.tasks)
    refine ⟨decide (TasksOk m [] m.tasks), ?_, decide_eq_true_iff⟩
    rw [hit _ ⟨0, [], decide (TasksOk m [] m.tasks), rfl, Nat.zero_le _, by omega, decide_eq_true_iff, rfl⟩, Option.bind_some]
    cases decide (TasksOk m [] m.tasks) <;> rfl
  · rintro ⟨i, s, c, rfl, h1, h2, hc, rfl⟩
    show Kq6.b2 n F m.tasks (m.tasks.length : Int) (i : Int) m.1 m.2.1 m.2.2.1 m.2.2.2.1 m.2.2.2.2.1 m.2.2.2.2.2.1 m.2.2.2.2.2.2 (own s) = _
    unfold Kq6.b2
    rcases Nat.lt_or_ge i m.tasks.length with hlt | hge
    · rw [drop_eq_cons (d := ((0 : Int), (0 : Int), (0 : Int), (0 : Int), ([] : List Int), ([] : List Int), ([] : List Ins))) hlt] at hc ⊢
      rw [if_pos (decide_eq_true (by omega)), if_pos (in_ix hlt), Int.toNat_natCast]
      generalize m.tasks.getD i (0, 0, 0, 0, [], [], []) = t at hc ⊢
      obtain ⟨b, e1, e2⟩ := task_right_is n hn hn2 m t hbl (by omega)
      rw [show image_Task_right.f n (t.1, t.2.1, t.2.2.1, t.2.2.2.1, t.2.2.2.2.1, t.2.2.2.2.2.1, t.2.2.2.2.2.2) (m.1, m.2.1, m.2.2.1, m.2.2.2.1, m.2.2.2.2.1, m.2.2.2.2.2.1, m.2.2.2.2.2.2) = some b from e1, Option.bind_some]
      cases b with
      | false =>
        have ht : ¬ TaskOk m t := fun h => by have := e2.2 h; cases this
        have hc0 : c = false := by cases c with
          | false => rfl
          | true => exact absurd (hc.1 rfl).1 ht
        rw [hc0]
        unfold stopT
        rw [if_neg ht]
        rfl
      | true =>
        have ht : TaskOk m t := e2.1 rfl
        have hr := ht.2.2.1
        have hlen := hr.len (by omega)
        have hmem := hr.mem
        rw [if_neg (by decide), owned_loop n m m.tasks _ _ t.outs (by omega) hn2 (fun x hx => by have := hmem x hx; omega) s, Option.bind_some]
        unfold stopT
        rw [if_pos ht]
        cases ha : apart s t.outs with
        | false =>
          have hc0 : c = false := by cases c with
            | false => rfl
            | true => have := (hc.1 rfl).2.1; rw [ha] at this; cases this
          rw [hc0]
          rfl
        | true =>
          rw [if_pos rfl, stopS_all ha, if_pos rfl]
          dsimp only [Sum.elim_inr]
          rw [next_ix (by omega)]
          exact hF _ _ ⟨i + 1, s ++ t.outs, c, rfl, by omega, by omega, hc.trans ⟨fun h => h.2.2, fun h => ⟨ht, ha, h⟩⟩, rfl⟩
    · have : i = m.tasks.length := by omega
      subst this
      rw [List.drop_length] at hc ⊢
      rw [if_neg (by simp), if_pos (hc.2 trivial)]
      rfl
end Go.Proofs.Dk

/- Plain: whether an image can be. -/
namespace Go.Proofs.Dk
open Go
set_option maxRecDepth 100000
set_option linter.unusedVariables false
set_option linter.unusedSimpArgs false
def ImgNums (m : Img) : Prop := (0 ≤ m.1 ∧ m.1 ≤ 100) ∧ (1 ≤ m.2.1 ∧ m.2.1 ≤ 100) ∧ (1 ≤ m.2.2.1 ∧ m.2.2.1 ≤ 100) ∧ (0 ≤ m.2.2.2.1 ∧ m.2.2.2.1 ≤ 16) ∧ m.safe.length ≤ 16 ∧ m.blocks.length ≤ 8 ∧ (1 ≤ m.tasks.length ∧ m.tasks.length ≤ 8)
def WordsOk (l : List (List Int)) : Prop := ∀ b ∈ l, 1 ≤ b.length ∧ b.length ≤ 8
def RightP (m : Img) : Prop := ImgNums m ∧ WordsOk m.blocks ∧ TasksOk m [] m.tasks
theorem words_loop (n : Nat) (hn2 : n < 1000000) (m : Img) (hT : m.blocks.length < n) (F : Option Bool) :
    ∃ c, (c = true ↔ WordsOk m.blocks) ∧ Kq6.b0.l n (m.blocks, (m.blocks.length : Int), 0, m.1, m.2.1, m.2.2.1, m.2.2.2.1, m.2.2.2.2.1, m.2.2.2.2.2.1, m.2.2.2.2.2.2) = some (if c = true then .inr ((), ((m.1, m.2.1, m.2.2.1, m.2.2.2.1, m.2.2.2.2.1, m.2.2.2.2.2.1, m.2.2.2.2.2.2, ()), ())) else .inl ((false, ()), ((m.1, m.2.1, m.2.2.1, m.2.2.2.1, m.2.2.2.2.1, m.2.2.2.2.2.1, m.2.2.2.2.2.2, ()), ()))) := by
  unfold Kq6.b0.l
  have := Classical.propDecidable (WordsOk m.blocks)
  refine ⟨decide (WordsOk m.blocks), decide_eq_true_iff, ?_⟩
  refine it_all (S := fun F (x : List (List Int) × Int × Int × Int × Int × Int × Int × List Int × List (List Int) × List Tsk) => Kq6.b0 n F x.1 x.2.1 x.2.2.1 x.2.2.2.1 x.2.2.2.2.1 x.2.2.2.2.2.1 x.2.2.2.2.2.2.1 x.2.2.2.2.2.2.2.1 x.2.2.2.2.2.2.2.2.1 x.2.2.2.2.2.2.2.2.2)
    (fun f x r => ∃ (i : Nat) (c : Bool), x = (m.blocks, (m.blocks.length : Int), (i : Int), m.1, m.2.1, m.2.2.1, m.2.2.2.1, m.2.2.2.2.1, m.2.2.2.2.2.1, m.2.2.2.2.2.2) ∧ i ≤ m.blocks.length ∧ m.blocks.length < f + i ∧ (c = true ↔ WordsOk (m.blocks.drop i)) ∧ r = if c = true then .inr ((), ((m.1, m.2.1, m.2.2.1, m.2.2.2.1, m.2.2.2.2.1, m.2.2.2.2.2.1, m.2.2.2.2.2.2, ()), ())) else .inl ((false, ()), ((m.1, m.2.1, m.2.2.1, m.2.2.2.1, m.2.2.2.2.1, m.2.2.2.2.2.1, m.2.2.2.2.2.2, ()), ()))) (fun x r ⟨i, c, _, h1, h2, _⟩ => by omega) (fun f x F hF r => ?_) n _ _ ⟨0, decide (WordsOk m.blocks), rfl, Nat.zero_le _, by omega, decide_eq_true_iff, rfl⟩
  rintro ⟨i, c, rfl, h1, h2, hc, rfl⟩
  show Kq6.b0 n F m.blocks (m.blocks.length : Int) (i : Int) m.1 m.2.1 m.2.2.1 m.2.2.2.1 m.2.2.2.2.1 m.2.2.2.2.2.1 m.2.2.2.2.2.2 = _
  unfold Kq6.b0
  rcases Nat.lt_or_ge i m.blocks.length with hlt | hge
  · rw [drop_eq_cons (d := ([] : List Int)) hlt] at hc
    rw [if_pos (decide_eq_true (by omega)), if_pos (in_ix hlt), Int.toNat_natCast]
    generalize m.blocks.getD i [] = b at hc ⊢
    have hc : c = true ↔ (1 ≤ b.length ∧ b.length ≤ 8) ∧ WordsOk (m.blocks.drop (i + 1)) := hc.trans List.forall_mem_cons
    have hno : ∀ (h : ¬ (1 ≤ b.length ∧ b.length ≤ 8)), c = false := fun h => by
      cases c with
      | false => rfl
      | true => exact absurd (hc.1 rfl).1 h
    by_cases g1 : b.length = 0
    · rw [if_pos (beq_iff_eq.2 (by omega)), hno (by omega)]; rfl
    rw [if_neg (fun h => g1 (by have := beq_iff_eq.1 h; omega))]
    by_cases g2 : b.length ≤ 8
    · rw [if_neg (by simp; omega), next_ix (by omega)]
      exact hF _ _ ⟨i + 1, c, rfl, by omega, by omega, hc.trans ⟨fun h => h.2, fun h => ⟨by omega, h⟩⟩, rfl⟩
    · rw [if_pos (decide_eq_true (by omega)), hno (by omega)]; rfl
  · have : i = m.blocks.length := by omega
    subst this
    rw [List.drop_length] at hc
    rw [if_neg (by simp), if_pos (hc.2 (fun b hb => by cases hb))]
theorem and7 {a b c d e f g : Bool} {A B C D E F G : Prop} (ha : a = true ↔ A) (hb : b = true ↔ B) (hc : c = true ↔ C) (hd : d = true ↔ D) (he : e = true ↔ E) (hf : f = true ↔ F) (hg : g = true ↔ G) : (a && (b && (c && (d && (e && (f && g)))))) = true ↔ A ∧ B ∧ C ∧ D ∧ E ∧ F ∧ G := by
  simp only [Bool.and_eq_true, ha, hb, hc, hd, he, hf, hg]
theorem right_is_img (n : Nat) (hn : 200 < n) (hn2 : n < 1000000) (m : Img) : Says (Kq6.f n m) (RightP m) := by
  unfold Kq6.f
  have hN : ∀ {b : Bool}, (b = true ↔ ImgNums m) → ∀ {o : Option Bool}, (ImgNums m → Says o (RightP m)) → Says (if (!b) = true then some false else o) (RightP m) := fun {b} hb {o} ho => by
    cases b with
    | false => exact Says.no (fun h => by have := hb.2 h.1; cases this)
    | true => exact ho (hb.1 rfl)
  refine hN ?_ ?_
  · refine and7 ?_ ?_ ?_ ?_ ?_ ?_ ?_
    all_goals (rw [beq_iff_eq])
    · generalize m.1 = a; constructor <;> intro h <;> (repeat' split at *) <;> omega
    · generalize m.2.1 = a; constructor <;> intro h <;> (repeat' split at *) <;> omega
    · generalize m.2.2.1 = a; constructor <;> intro h <;> (repeat' split at *) <;> omega
    · generalize m.2.2.2.1 = a; constructor <;> intro h <;> (repeat' split at *) <;> omega
    · show (m.safe.length : Int) = _ ↔ _
      generalize m.safe.length = a; constructor <;> intro h <;> (repeat' split at *) <;> omega
    · show (m.blocks.length : Int) = _ ↔ _
      generalize m.blocks.length = a; constructor <;> intro h <;> (repeat' split at *) <;> omega
    · show (m.tasks.length : Int) = _ ↔ _
      generalize m.tasks.length = a; constructor <;> intro h <;> (repeat' split at *) <;> omega
  · intro hI
    obtain ⟨_, _, _, _, h5, h6, h7⟩ := id hI
    obtain ⟨c, hc, e⟩ := words_loop n hn2 m (by omega) none
    rw [e, Option.bind_some]
    cases c with
    | false => exact Says.no (fun h => by have := hc.2 h.2.1; cases this)
    | true => exact (tasks_loop n hn hn2 m (by omega) h5 (by omega)).iff ⟨fun h => ⟨hI, hc.1 rfl, h⟩, fun h => h.2.2⟩
end Go.Proofs.Dk

/- Plain: whether an image can be, as the document says. -/
namespace Go.Proofs.Dk
open Go
set_option maxRecDepth 100000
set_option linter.unusedVariables false
set_option linter.unusedSimpArgs false
def LightP (m : Img) : Prop := m.safe.length + m.blocks.length + m.tasks.length ≤ 80 ∧ ∀ t ∈ m.tasks, t.code.length ≤ 4019
end Go.Proofs.Dk

/- Plain: what is wrong with a task. -/
namespace Go.Proofs.Dk
open Go
set_option maxRecDepth 100000
set_option linter.unusedVariables false
set_option linter.unusedSimpArgs false
theorem lockF_mem (l : List Ins) : ∀ (r i p : Nat), i ≤ p → p < i + r → opAt l p = 23 → argA l p ∈ lockF l r i
  | 0, i, p, h1, h2, h3 => by omega
  | r + 1, i, p, h1, h2, h3 => by
    rw [show lockF l (r + 1) i = lock1 l i ++ lockF l r (i + 1) from rfl, List.mem_append]
    by_cases h : i = p
    · subst h
      left
      unfold lock1
      rw [if_pos h3]
      exact List.mem_cons_self
    · exact .inr (lockF_mem l r (i + 1) p (by omega) (by omega) h3)
theorem locked_mem {l : List Ins} (h : locksI l = 0) {i : Nat} (hi : i < l.length) (ho : opAt l i = 17 ∨ opAt l i = 18) : argA l i ∈ lockL l := by
  have hb := locks_ok h hi
  unfold badI at hb
  rw [if_neg (by omega), if_pos ho, Bool.not_eq_false'] at hb
  unfold underB at hb
  obtain ⟨k, h1, h2⟩ := anyB_iff.1 hb
  simp only [Bool.and_eq_true, beq_iff_eq] at h2
  unfold lockL
  rw [if_pos h, ← h2.2.2]
  exact lockF_mem l _ _ k (Nat.zero_le _) (by omega) h2.2.1
theorem locked_blocks {m : Img} {t : Tsk} (hl : locksI t.code = 0) (hb : lockL t.code = t.blocks) (ht : TaskOk m t) : ∀ i ∈ t.code, i.1 = 17 ∨ i.1 = 18 → 0 ≤ i.2.1 ∧ i.2.1 < (m.blocks.length : Int) := by
  intro x hx ho
  obtain ⟨i, hi, e⟩ := List.getElem_of_mem hx
  have e : t.code.getD i (0, 0, 0) = x := by rw [getD_in hi, e]
  have h := locked_mem hl hi (by unfold opAt; rw [e]; exact ho)
  rw [hb] at h
  have := ht.2.1.mem _ h
  unfold argA at this
  rw [e] at this
  omega
open Classical in
noncomputable def taskI (n : Nat) (m : Img) (i : Int) : Int :=
  if RightP m then
    if i < 0 ∨ i ≥ (m.tasks.length : Int) then 14
    else
      let t := m.tasks.getD i.toNat (0, 0, 0, 0, [], [], [])
      if (allI bM n t.code).2 ≠ 0 then (allI bM n t.code).2 else if lockL t.code = t.blocks then (if t.code.all (nameI m t) = true then 0 else 12) else 11
  else 12
theorem RightP.task {m : Img} (h : RightP m) {i : Int} (h0 : 0 ≤ i) (h1 : i < (m.tasks.length : Int)) : TaskOk m (m.tasks.getD i.toNat (0, 0, 0, 0, [], [], [])) ∧ m.tasks.getD i.toNat (0, 0, 0, 0, [], [], []) ∈ m.tasks := by
  have hlt : i.toNat < m.tasks.length := by omega
  have hm : m.tasks.getD i.toNat ((0 : Int), (0 : Int), (0 : Int), (0 : Int), ([] : List Int), ([] : List Int), ([] : List Ins)) ∈ m.tasks := by rw [List.getD_eq_getElem?_getD, List.getElem?_eq_getElem hlt]; exact List.getElem_mem hlt
  exact ⟨(TasksOk.all.1 h.2.2).1 _ hm, hm⟩
theorem task_is (n : Nat) (hn : 200 < n) (hn2 : n < 1000000) (m : Img) (i : Int) : check_Task.f n m i = some (taskI n m i) := by
  obtain ⟨b, e1, e2⟩ := right_is_img n hn hn2 m
  unfold check_Task.f
  rw [show Kq6.f n (m.1, m.2.1, m.2.2.1, m.2.2.2.1, m.2.2.2.2.1, m.2.2.2.2.2.1, m.2.2.2.2.2.2) = some b from e1, Option.bind_some]
  unfold taskI
  cases b with
  | false =>
    rw [if_pos (show (!false) = true from rfl), if_neg (show ¬ RightP m from fun h => by have := e2.2 h; cases this)]
  | true =>
    have hR := e2.1 rfl
    rw [if_pos hR, if_neg (by decide)]
    by_cases h0 : i < 0
    · rw [if_pos (decide_eq_true h0), if_pos (.inl h0)]
    rw [if_neg (by simpa using h0)]
    by_cases h1 : i ≥ (m.tasks.length : Int)
    · rw [if_pos (show decide (i ≥ (m.2.2.2.2.2.2.length : Int)) = true from decide_eq_true h1), if_pos (.inr h1)]
    rw [if_neg (show ¬ decide (i ≥ (m.2.2.2.2.2.2.length : Int)) = true from fun h => h1 (of_decide_eq_true h)), if_neg (show ¬ (i < 0 ∨ i ≥ (m.tasks.length : Int)) by omega), if_pos (show (decide (0 ≤ i) && decide (i < (m.2.2.2.2.2.2.length : Int))) = true by rw [decide_eq_true (by omega), decide_eq_true (show i < (m.2.2.2.2.2.2.length : Int) from by have : (m.tasks.length : Int) = (m.2.2.2.2.2.2.length : Int) := rfl; omega)]; rfl)]
    obtain ⟨ht, hm⟩ := hR.task (i := i) (by omega) (by omega)
    rw [show m.2.2.2.2.2.2.getD i.toNat (0, 0, 0, 0, [], [], []) = m.tasks.getD i.toNat (0, 0, 0, 0, [], [], []) from rfl]
    generalize m.tasks.getD i.toNat (0, 0, 0, 0, [], [], []) = t at ht ⊢
    have hc : t.code.length < n := by have := ht.2.2.2.2.1; omega
    have hol : t.outs.length < n := by have := ht.2.2.1.len (by omega); have := hR.1.2.2.2.2.1; omega
    have hS : check_job_steps.f n ((t.1, t.2.1, t.2.2.1, t.2.2.2.1, t.2.2.2.2.1, t.2.2.2.2.2.1, t.2.2.2.2.2.2), (m.1, m.2.1, m.2.2.1, m.2.2.2.1, m.2.2.2.2.1, m.2.2.2.2.2.1, m.2.2.2.2.2.2)) = some (allI bM n t.code).2 := by
      unfold check_job_steps.f
      rw [show cost_Worst.f n (((t.1, t.2.1, t.2.2.1, t.2.2.2.1, t.2.2.2.2.1, t.2.2.2.2.2.1, t.2.2.2.2.2.2), (m.1, m.2.1, m.2.2.1, m.2.2.2.1, m.2.2.2.2.1, m.2.2.2.2.2.1, m.2.2.2.2.2.2)) : Tsk × Img).1.2.2.2.2.2.2 = some (allI bM n t.code) from worst_is n t.code hc (by omega) hn2]
      rfl
    rw [hS, Option.bind_some]
    dsimp only
    by_cases hz : (allI bM n t.code).2 ≠ 0
    · rw [if_pos (bne_iff_ne.2 hz), if_pos hz]
    rw [if_neg (fun h => hz (bne_iff_ne.1 h)), if_neg hz]
    have hlk := (all_zero (Decidable.not_not.1 hz)).1
    have hB : Kq10.f n ((t.1, t.2.1, t.2.2.1, t.2.2.2.1, t.2.2.2.2.1, t.2.2.2.2.2.1, t.2.2.2.2.2.2), (m.1, m.2.1, m.2.2.1, m.2.2.2.1, m.2.2.2.2.1, m.2.2.2.2.2.1, m.2.2.2.2.2.2)) = some (if lockL t.code = t.blocks then 0 else 11) := by
      have := blocks_is n t m hc (by omega) hn2
      rw [if_neg (fun h => h hlk)] at this
      exact this
    rw [hB, Option.bind_some]
    by_cases hb : lockL t.code = t.blocks
    · rw [if_pos hb, if_pos hb, if_neg (by decide)]
      have hN : Kq7.f n ((t.1, t.2.1, t.2.2.1, t.2.2.2.1, t.2.2.2.2.1, t.2.2.2.2.2.1, t.2.2.2.2.2.2), (m.1, m.2.1, m.2.2.1, m.2.2.2.1, m.2.2.2.2.1, m.2.2.2.2.2.1, m.2.2.2.2.2.2)) = _ := names_is n t m hc hol hn2 (locked_blocks hlk hb ht)
      rw [hN, Option.bind_some]
      cases t.code.all (nameI m t) <;> rfl
    · rw [if_neg hb, if_neg hb]
      rfl
end Go.Proofs.Dk

/- Plain: images that ask little. -/
namespace Go.Proofs.Dk
open Go
set_option maxRecDepth 100000
set_option linter.unusedVariables false
set_option linter.unusedSimpArgs false
def cut100 (k : Nat) : Int := if (100 : Int) < (k : Int) then 100 else (k : Int)
def cut10000 (k : Nat) : Int := if (10000 : Int) < (k : Int) then 10000 else (k : Int)
theorem cut100_in (k : Nat) : 0 ≤ cut100 k ∧ cut100 k ≤ 100 := by unfold cut100; split <;> omega
theorem cut10000_in (k : Nat) : 0 ≤ cut10000 k ∧ cut10000 k ≤ 10000 := by unfold cut10000; split <;> omega
def lightB (a : Int) (l : List (List Int)) : Int := l.foldl (fun a b => a + cut100 b.length) a
def lightT (a : Int) (l : List Tsk) : Int := l.foldl (fun a t => a + cut100 t.blocks.length + cut100 t.outs.length + (cut10000 t.code.length).tdiv 20) a
theorem lightB_ge : ∀ {l : List (List Int)} {a : Int}, a ≤ lightB a l ∧ lightB a l ≤ a + 100 * l.length
  | [], a => by simp [lightB]
  | b :: l, a => by
    have := lightB_ge (l := l) (a := a + cut100 b.length)
    have := cut100_in b.length
    rw [show lightB a (b :: l) = lightB (a + cut100 b.length) l from rfl, List.length_cons]
    omega
theorem lightT_ge : ∀ {l : List Tsk} {a : Int}, a ≤ lightT a l ∧ ∀ t ∈ l, a + (cut10000 t.code.length).tdiv 20 ≤ lightT a l
  | [], a => by simp [lightT]
  | t :: l, a => by
    obtain ⟨h1, h2⟩ := lightT_ge (l := l) (a := a + cut100 t.blocks.length + cut100 t.outs.length + (cut10000 t.code.length).tdiv 20)
    have h3 := cut100_in t.blocks.length
    have h4 := cut100_in t.outs.length
    have h5 := cut10000_in t.code.length
    have h6 : (cut10000 t.code.length).tdiv 20 = cut10000 t.code.length / 20 := Int.tdiv_eq_ediv_of_nonneg h5.1
    rw [show lightT a (t :: l) = lightT (a + cut100 t.blocks.length + cut100 t.outs.length + (cut10000 t.code.length).tdiv 20) l from rfl, List.forall_mem_cons]
    refine ⟨by omega, by omega, fun u hu => ?_⟩
    have := h2 u hu
    omega
theorem lightB_is (n : Nat) (hn : n < 1000000) (m : Img) (hT : m.blocks.length < n) (a : Int) (ha : 0 ≤ a ∧ a ≤ 80) : Kq3.b0.l n (a, 0, m.1, m.2.1, m.2.2.1, m.2.2.2.1, m.2.2.2.2.1, m.2.2.2.2.2.1, m.2.2.2.2.2.2) = some (lightB a m.blocks, m.1, m.2.1, m.2.2.1, m.2.2.2.1, m.2.2.2.2.1, m.2.2.2.2.2.1, m.2.2.2.2.2.2) := by
  unfold Kq3.b0.l
  refine it_all (S := fun F (x : Int × Int × Int × Int × Int × Int × List Int × List (List Int) × List Tsk) => Kq3.b0 n F x.1 x.2.1 x.2.2.1 x.2.2.2.1 x.2.2.2.2.1 x.2.2.2.2.2.1 x.2.2.2.2.2.2.1 x.2.2.2.2.2.2.2.1 x.2.2.2.2.2.2.2.2)
    (fun f x r => ∃ (i : Nat) (b : Int), x = (b, (i : Int), m.1, m.2.1, m.2.2.1, m.2.2.2.1, m.2.2.2.2.1, m.2.2.2.2.2.1, m.2.2.2.2.2.2) ∧ i ≤ m.blocks.length ∧ m.blocks.length < f + i ∧ (0 ≤ b ∧ b ≤ 80 + 100 * i) ∧ r = (lightB b (m.blocks.drop i), m.1, m.2.1, m.2.2.1, m.2.2.2.1, m.2.2.2.2.1, m.2.2.2.2.2.1, m.2.2.2.2.2.2)) (fun x r ⟨i, b, _, h1, h2, _⟩ => by omega) (fun f x F hF r => ?_) n _ _ ⟨0, a, rfl, Nat.zero_le _, by omega, by omega, rfl⟩
  rintro ⟨i, b, rfl, h1, h2, hb, rfl⟩
  show Kq3.b0 n F b (i : Int) m.1 m.2.1 m.2.2.1 m.2.2.2.1 m.2.2.2.2.1 m.2.2.2.2.2.1 m.2.2.2.2.2.2 = _
  unfold Kq3.b0
  rcases Nat.lt_or_ge i m.blocks.length with hlt | hge
  · rw [if_pos (show decide ((i : Int) < (m.2.2.2.2.2.1.length : Int)) = true from decide_eq_true (by exact_mod_cast hlt)), if_pos (show (decide (0 ≤ (i : Int)) && decide ((i : Int) < (m.2.2.2.2.2.1.length : Int))) = true from in_ix hlt), Int.toNat_natCast, next_ix (by omega), drop_eq_cons (d := ([] : List Int)) hlt]
    have hc := cut100_in (m.blocks.getD i []).length
    show F (IntKind.wrap .i64 (b + cut100 (m.blocks.getD i []).length), _) = _
    rw [wrap_id (show -9223372036854775808 ≤ b + cut100 (m.blocks.getD i []).length by omega) (show b + cut100 (m.blocks.getD i []).length ≤ 9223372036854775807 by omega)]
    exact hF _ _ ⟨i + 1, _, rfl, by omega, by omega, by omega, rfl⟩
  · have : i = m.blocks.length := by omega
    subst this
    rw [if_neg (by simp), List.drop_length]
    rfl
theorem lightT_is (n : Nat) (hn : n < 1000000) (m : Img) (hT : m.tasks.length < n) (hB : m.blocks.length < n) (a : Int) (ha : 0 ≤ a ∧ a ≤ 80 + 100 * m.blocks.length) : Kq3.b1.l n (a, 0, m.1, m.2.1, m.2.2.1, m.2.2.2.1, m.2.2.2.2.1, m.2.2.2.2.2.1, m.2.2.2.2.2.2) = some (lightT a m.tasks, m.1, m.2.1, m.2.2.1, m.2.2.2.1, m.2.2.2.2.1, m.2.2.2.2.2.1, m.2.2.2.2.2.2) := by
  unfold Kq3.b1.l
  refine it_all (S := fun F (x : Int × Int × Int × Int × Int × Int × List Int × List (List Int) × List Tsk) => Kq3.b1 n F x.1 x.2.1 x.2.2.1 x.2.2.2.1 x.2.2.2.2.1 x.2.2.2.2.2.1 x.2.2.2.2.2.2.1 x.2.2.2.2.2.2.2.1 x.2.2.2.2.2.2.2.2)
    (fun f x r => ∃ (i : Nat) (b : Int), x = (b, (i : Int), m.1, m.2.1, m.2.2.1, m.2.2.2.1, m.2.2.2.2.1, m.2.2.2.2.2.1, m.2.2.2.2.2.2) ∧ i ≤ m.tasks.length ∧ m.tasks.length < f + i ∧ (0 ≤ b ∧ b ≤ 80 + 100 * m.blocks.length + 700 * i) ∧ r = (lightT b (m.tasks.drop i), m.1, m.2.1, m.2.2.1, m.2.2.2.1, m.2.2.2.2.1, m.2.2.2.2.2.1, m.2.2.2.2.2.2)) (fun x r ⟨i, b, _, h1, h2, _⟩ => by omega) (fun f x F hF r => ?_) n _ _ ⟨0, a, rfl, Nat.zero_le _, by omega, by omega, rfl⟩
  rintro ⟨i, b, rfl, h1, h2, hb, rfl⟩
  show Kq3.b1 n F b (i : Int) m.1 m.2.1 m.2.2.1 m.2.2.2.1 m.2.2.2.2.1 m.2.2.2.2.2.1 m.2.2.2.2.2.2 = _
  unfold Kq3.b1
  rcases Nat.lt_or_ge i m.tasks.length with hlt | hge
  · rw [if_pos (show decide ((i : Int) < (m.2.2.2.2.2.2.length : Int)) = true from decide_eq_true (by exact_mod_cast hlt)), if_pos (show (decide (0 ≤ (i : Int)) && decide ((i : Int) < (m.2.2.2.2.2.2.length : Int))) = true from in_ix hlt), Int.toNat_natCast, next_ix (by omega), drop_eq_cons (d := ((0 : Int), (0 : Int), (0 : Int), (0 : Int), ([] : List Int), ([] : List Int), ([] : List Ins))) hlt]
    rw [show m.2.2.2.2.2.2.getD i (0, 0, 0, 0, [], [], []) = m.tasks.getD i (0, 0, 0, 0, [], [], []) from rfl]
    generalize m.tasks.getD i (0, 0, 0, 0, [], [], []) = t
    have h3 := cut100_in t.blocks.length
    have h4 := cut100_in t.outs.length
    have h5 := cut10000_in t.code.length
    have h6 : (cut10000 t.code.length).tdiv 20 = cut10000 t.code.length / 20 := Int.tdiv_eq_ediv_of_nonneg h5.1
    show F (IntKind.wrap .i64 (IntKind.wrap .i64 (IntKind.wrap .i64 (b + cut100 t.blocks.length) + cut100 t.outs.length) + IntKind.wrap .i64 ((cut10000 t.code.length).tdiv 20)), _) = _
    rw [wrap_id (e := (cut10000 t.code.length).tdiv 20) (by omega) (by omega), wrap_id (e := b + cut100 t.blocks.length) (by omega) (by omega), wrap_id (e := b + cut100 t.blocks.length + cut100 t.outs.length) (by omega) (by omega), wrap_id (e := b + cut100 t.blocks.length + cut100 t.outs.length + (cut10000 t.code.length).tdiv 20) (by omega) (by omega)]
    exact hF _ _ ⟨i + 1, _, rfl, by omega, by omega, by omega, rfl⟩
  · have : i = m.tasks.length := by omega
    subst this
    rw [if_neg (by simp), List.drop_length]
    rfl
theorem light_is (n : Nat) (hn0 : 200 < n) (hn : n < 1000000) (m : Img) (hs : m.safe.length < 9000000000000000 ∧ m.blocks.length < 9000000000000000 ∧ m.tasks.length < 9000000000000000) : Kq3.f n m = some 0 ∨ (Kq3.f n m = some 1 ∧ LightP m) := by
  unfold Kq3.f
  have e : IntKind.wrap .i64 (IntKind.wrap .i64 ((m.safe.length : Int) + (m.blocks.length : Int)) + (m.tasks.length : Int)) = (m.safe.length : Int) + (m.blocks.length : Int) + (m.tasks.length : Int) := by
    rw [wrap_id (e := (m.safe.length : Int) + (m.blocks.length : Int)) (by omega) (by omega), wrap_id (by omega) (by omega)]
  rw [show IntKind.wrap .i64 (IntKind.wrap .i64 ((m.2.2.2.2.1.length : Int) + (m.2.2.2.2.2.1.length : Int)) + (m.2.2.2.2.2.2.length : Int)) = (m.safe.length : Int) + (m.blocks.length : Int) + (m.tasks.length : Int) from e]
  by_cases h : (m.safe.length : Int) + (m.blocks.length : Int) + (m.tasks.length : Int) > 80
  · rw [if_pos (decide_eq_true h)]
    exact .inl rfl
  rw [if_neg (by simpa using h), lightB_is n hn m (by omega) _ (by omega), Option.bind_some]
  obtain ⟨hB1, hB2⟩ := lightB_ge (l := m.blocks) (a := (m.safe.length : Int) + (m.blocks.length : Int) + (m.tasks.length : Int))
  rw [show Kq3.b1.l n _ = _ from lightT_is n hn m (by omega) (by omega) (lightB ((m.safe.length : Int) + (m.blocks.length : Int) + (m.tasks.length : Int)) m.blocks) (by omega), Option.bind_some]
  dsimp only
  obtain ⟨hT1, hT2⟩ := lightT_ge (l := m.tasks) (a := lightB ((m.safe.length : Int) + (m.blocks.length : Int) + (m.tasks.length : Int)) m.blocks)
  split
  · exact .inl rfl
  · rename_i h2
    have h2 : lightT (lightB ((m.safe.length : Int) + (m.blocks.length : Int) + (m.tasks.length : Int)) m.blocks) m.tasks ≤ 200 := by simpa using h2
    refine .inr ⟨rfl, by omega, fun t ht => ?_⟩
    have h3 := hT2 t ht
    have h5 := cut10000_in t.code.length
    have h6 : (cut10000 t.code.length).tdiv 20 = cut10000 t.code.length / 20 := Int.tdiv_eq_ediv_of_nonneg h5.1
    have h7 : cut10000 t.code.length ≤ 4019 := by omega
    unfold cut10000 at h7
    split at h7 <;> omega
end Go.Proofs.Dk

/- Plain: slots, locks, all. -/
namespace Go.Proofs.Dk
open Go
set_option maxRecDepth 100000
set_option linter.unusedVariables false
set_option linter.unusedSimpArgs false
abbrev taskAt (m : Img) (i : Int) : Tsk := m.tasks.getD i.toNat (0, 0, 0, 0, [], [], [])
theorem taskI_zero {n : Nat} {m : Img} {i : Int} (h : taskI n m i = 0) : RightP m ∧ (0 ≤ i ∧ i < (m.tasks.length : Int)) ∧ (allI bM n (taskAt m i).code).2 = 0 ∧ lockL (taskAt m i).code = (taskAt m i).blocks ∧ (taskAt m i).code.all (nameI m (taskAt m i)) = true := by
  unfold taskI at h
  split at h
  · rename_i hR
    split at h
    · cases h
    · dsimp only at h
      split at h
      · rename_i h1
        exact absurd h h1
      · rename_i h1
        split at h
        · rename_i h2
          split at h
          · rename_i h3
            exact ⟨hR, by omega, Decidable.not_not.1 h1, h2, h3⟩
          · cases h
        · cases h
  · cases h
noncomputable def slotsI (n : Nat) (m : Img) (i : Int) : Int × Int :=
  if taskI n m i ≠ 0 then (0, taskI n m i) else ((allI bM n (taskAt m i).code).1 + 2 * m.1 + m.2.1 + m.2.2.1, 0)
theorem ix_some {i : Int} {k : Nat} (h0 : 0 ≤ i) (h1 : i < (k : Int)) : (decide (0 ≤ i) && decide (i < (k : Int))) = true := by rw [decide_eq_true h0, decide_eq_true h1]; rfl
theorem slots_is (n : Nat) (hn : 200 < n) (hn2 : n < 1000000) (m : Img) (i : Int) : check_Slots.f n m i = some (slotsI n m i) := by
  unfold check_Slots.f slotsI
  rw [show check_Task.f n (m.1, m.2.1, m.2.2.1, m.2.2.2.1, m.2.2.2.2.1, m.2.2.2.2.2.1, m.2.2.2.2.2.2) i = _ from task_is n hn hn2 m i, Option.bind_some]
  by_cases h : taskI n m i ≠ 0
  · rw [if_pos (bne_iff_ne.2 h), if_pos h]
  rw [if_neg (fun k => h (bne_iff_ne.1 k)), if_neg h]
  obtain ⟨hR, ⟨h0, h1⟩, h2, h3, h4⟩ := taskI_zero (Decidable.not_not.1 h)
  obtain ⟨ht, hm⟩ := hR.task h0 h1
  have hc : (taskAt m i).code.length < n := Nat.lt_of_le_of_lt ht.2.2.2.2.1 (by omega)
  rw [if_pos (show (decide (0 ≤ i) && decide (i < (m.2.2.2.2.2.2.length : Int))) = true from ix_some h0 h1)]
  rw [show cost_Worst.f n (m.2.2.2.2.2.2.getD i.toNat (0, 0, 0, 0, [], [], [])).2.2.2.2.2.2 = _ from worst_is n (taskAt m i).code hc (by omega) hn2, Option.bind_some]
  try dsimp only
  obtain ⟨_, a1, a2, _, a3⟩ := allI_err n _ h2
  obtain ⟨n1, n2, n3, _⟩ := hR.1
  rw [h2, wrap_id (e := m.1 + m.2.1) (by omega) (by omega), wrap_id (e := m.1 + m.2.1 + (allI bM n (taskAt m i).code).1) (by omega) (by omega), wrap_id (e := m.1 + m.2.1 + (allI bM n (taskAt m i).code).1 + m.2.2.1) (by omega) (by omega), wrap_id (by omega) (by omega)]
  congr 2
  omega
end Go.Proofs.Dk

/- Plain: the statements' images. -/
namespace Go.Proofs.Dk
open Go
set_option maxRecDepth 100000
set_option linter.unusedVariables false
abbrev TskS : Sh := .pair (.int .i64) (.pair (.int .i64) (.pair (.int .i64) (.pair (.int .i64) (.pair (.sl (.int .i64)) (.pair (.sl (.int .i64)) (.sl (.pair (.int .i64) (.pair (.int .i64) (.int .i64)))))))))
abbrev ImgS : Sh := .pair (.int .i64) (.pair (.int .i64) (.pair (.int .i64) (.pair (.int .i64) (.pair (.sl (.int .i64)) (.pair (.sl (.sl (.int .i64))) (.sl TskS))))))
theorem img_light (n : Nat) (hn0 : 200 < n) (hn : n < 1000000) {m : Img} (h : Sh.Sm ImgS m) : Kq3.f n m = some 0 ∨ (Kq3.f n m = some 1 ∧ LightP m) :=
  light_is n hn0 hn m (by
    have h1 : m.safe.length ≤ 140737488351232 := h.2.2.2.2.1
    have h2 : m.blocks.length ≤ 140737488351232 := h.2.2.2.2.2.1
    have h3 : m.tasks.length ≤ 140737488351232 := h.2.2.2.2.2.2
    omega)
end Go.Proofs.Dk

/- Plain: the stacks that a row has, in the end. -/
namespace Go.Proofs.Dk
open Go
set_option maxRecDepth 100000
set_option linter.unusedVariables false
set_option linter.unusedSimpArgs false
theorem toList_loop (y : ByteArray) : ∀ (k i : Nat) (r : List UInt8), y.size - i = k → ByteArray.toList.loop y i r = r.reverse ++ y.data.toList.drop i
  | 0, i, r, h => by
    unfold ByteArray.toList.loop
    rw [if_neg (by omega), List.drop_eq_nil_of_le (by rw [Array.length_toList]; exact Nat.sub_eq_zero_iff_le.1 h), List.append_nil]
  | k + 1, i, r, h => by
    unfold ByteArray.toList.loop
    have hi : i < y.size := by omega
    rw [if_pos hi, toList_loop y k (i + 1) _ (by omega), List.reverse_cons, List.append_assoc]
    have hi2 : i < y.data.toList.length := by rw [Array.length_toList]; exact hi
    rw [List.drop_eq_getElem_cons hi2]
    congr 1
    have : y.get! i = y.data.toList[i] := by
      show y.data[i]! = _
      rw [getElem!_pos y.data i hi, Array.getElem_toList]
    rw [this]
    rfl
theorem toList_data (y : ByteArray) : y.toList = y.data.toList := by
  unfold ByteArray.toList
  rw [toList_loop y _ 0 [] rfl]
  rfl
theorem toList_inj {a b : ByteArray} (h : a.toList = b.toList) : a = b := by
  rw [toList_data, toList_data] at h
  cases a; cases b
  congr 1
  exact Array.toList_inj.1 h
theorem neB_false {a b : ByteArray} (h : neB a b = false) : a = b := by
  unfold neB at h
  apply toList_inj
  cases h2 : (a.toList == b.toList)
  · rw [h2] at h; cases h
  · exact eq_of_beq h2
theorem jumpTo_gt (l : List Ins) (i : Nat) : i < jumpTo l i := by unfold jumpTo; omega
theorem nexts_gt {l : List Ins} {i q : Nat} (h : q ∈ nextsI l i) : i < q := by
  have := jumpTo_gt l i
  unfold nextsI at h
  split at h
  · rw [List.mem_singleton] at h; omega
  · split at h
    · rw [List.mem_cons, List.mem_singleton] at h; omega
    · split at h
      · cases h
      · rw [List.mem_singleton] at h; omega
abbrev stF (f : Flow) (k : Nat) : ByteArray := f.1.getD k ByteArray.empty
abbrev soF (f : Flow) (k : Nat) : Bool := f.2.1.getD k false
abbrev clF (f : Flow) (k : Nat) : Bool := f.2.2.getD k false
theorem hand_st {l : List Ins} {f : Flow} (hI : FlowI l f) {q : Nat} (hq : q < l.length) (t : ByteArray) (k : Nat) : stF (handI q t f) k = if k = q then t else stF f k := getD_set (by rw [hI.a]; exact hq)
theorem hand_so {l : List Ins} {f : Flow} (hI : FlowI l f) {q : Nat} (hq : q < l.length) (t : ByteArray) (k : Nat) : soF (handI q t f) k = if k = q then true else soF f k := getD_set (by rw [hI.b]; exact hq)
theorem hand_cl {l : List Ins} {f : Flow} (hI : FlowI l f) {q : Nat} (hq : q < l.length) (t : ByteArray) (k : Nat) : clF (handI q t f) k = if k = q then (clF f q || (soF f q && neB (stF f q) t)) else clF f k := by
  unfold handI clF
  simp only
  by_cases h : (f.2.1.getD q false && neB (f.1.getD q ByteArray.empty) t) = true
  · rw [if_pos h, getD_set (by rw [hI.c]; exact hq)]
    unfold soF stF
    rw [h, Bool.or_true]
  · rw [if_neg h]
    unfold soF stF
    rw [Bool.not_eq_true] at h
    rw [h, Bool.or_false]
    split
    · rename_i hk; rw [hk]
    · rfl
abbrev aftO (l : List Ins) (f : Flow) (j : Nat) : ByteArray := (afterI (l.getD j (0, 0, 0)) (stF f j)).1
abbrev aftE (l : List Ins) (f : Flow) (j : Nat) : Int := (afterI (l.getD j (0, 0, 0)) (stF f j)).2
structure FlowJ (l : List Ins) (m : List Int) (i : Nat) (f : Flow) : Prop where
  ok : ∀ j, j < i → aftE l f j = 0
  nx : ∀ j, j < i → ∀ q ∈ nextsI l j, soF f q = true ∧ (clF f q = false → stF f q = aftO l f j)
  nt : ∀ j, j < i → opAt l j = 22 → stF f (m.getD j 0).toNat = stF f j
  cl : ∀ j, j < i → clF f j = false
  z : stF f 0 = ByteArray.empty
theorem FlowJ.hand {l : List Ins} {m h : List Int} (hF : Fine l m h) {i : Nat} (hi : i < l.length) {f : Flow} (hI : FlowI l f) (hJ : FlowJ l m i f) {q : Nat} (hiq : i < q) (hq : q < l.length) (t : ByteArray) : FlowJ l m i (handI q t f) := by
  have hst := hand_st hI hq t
  have hso := hand_so hI hq t
  have hcl := hand_cl hI hq t
  have hlow : ∀ j, j < i → stF (handI q t f) j = stF f j := fun j hj => by rw [hst, if_neg (by omega)]
  refine ⟨fun j hj => ?_, fun j hj p hp => ?_, fun j hj ho => ?_, fun j hj => ?_, ?_⟩
  · unfold aftE
    rw [hlow j hj]
    exact hJ.ok j hj
  · obtain ⟨h1, h2⟩ := hJ.nx j hj p hp
    unfold aftO
    rw [hlow j hj, hso, hcl, hst]
    by_cases hpq : p = q
    · subst hpq
      rw [if_pos rfl, if_pos rfl, if_pos rfl]
      refine ⟨rfl, fun hc => ?_⟩
      rw [Bool.or_eq_false_iff, h1, Bool.true_and] at hc
      rw [← neB_false hc.2]
      exact h2 hc.1
    · rw [if_neg hpq, if_neg hpq, if_neg hpq]
      exact ⟨h1, h2⟩
  · obtain ⟨k, k1, k2, _⟩ := hF.closed.cl j (by omega) (.inl ho)
    have := hJ.nt j hj ho
    rw [k1, Int.toNat_natCast] at this ⊢
    rw [hlow j hj, hlow k (by omega)]
    exact this
  · rw [hcl, if_neg (by omega)]
    exact hJ.cl j hj
  · rw [hst, if_neg (by omega)]
    exact hJ.z
theorem fold_J {l : List Ins} {m h : List Int} (hF : Fine l m h) {i : Nat} (hi : i < l.length) {t : ByteArray} (ht : t.size ≤ 16) : ∀ (ks done : List Nat) {f : Flow}, FlowI l f → FlowJ l m i f → (∀ q ∈ ks, i < q ∧ q < l.length) → (∀ q ∈ done, q < l.length ∧ soF f q = true ∧ (clF f q = false → stF f q = t)) →
    FlowJ l m i (ks.foldl (fun g k => handI k t g) f) ∧ (∀ q ∈ done ++ ks, soF (ks.foldl (fun g k => handI k t g) f) q = true ∧ (clF (ks.foldl (fun g k => handI k t g) f) q = false → stF (ks.foldl (fun g k => handI k t g) f) q = t)) ∧ (∀ k, k ≤ i → stF (ks.foldl (fun g k => handI k t g) f) k = stF f k ∧ clF (ks.foldl (fun g k => handI k t g) f) k = clF f k)
  | [], done, f, hI, hJ, hk, hd => ⟨hJ, fun q hq => (hd q (by simpa using hq)).2, fun k _ => ⟨rfl, rfl⟩⟩
  | p :: ks, done, f, hI, hJ, hk, hd => by
    have hp := hk p (List.mem_cons_self ..)
    have hst := hand_st hI hp.2 t
    have hso := hand_so hI hp.2 t
    have hcl := hand_cl hI hp.2 t
    have ih := fold_J hF hi ht ks (done ++ [p]) (f := handI p t f) (handI_ok hI p ht) (hJ.hand hF hi hI hp.1 hp.2 t) (fun q hq => hk q (List.mem_cons_of_mem _ hq)) (fun q hq => by
      rw [List.mem_append, List.mem_singleton] at hq
      rw [hso, hcl, hst]
      by_cases hqp : q = p
      · subst hqp
        exact ⟨hp.2, by rw [if_pos rfl], fun _ => by rw [if_pos rfl]⟩
      · rw [if_neg hqp, if_neg hqp, if_neg hqp]
        exact hd q (hq.elim id fun h => absurd h hqp))
    refine ⟨ih.1, fun q hq => ih.2.1 q ?_, fun k hk => ?_⟩
    · rw [List.append_assoc]; exact hq
    · have h2 := ih.2.2 k hk
      refine ⟨h2.1.trans ?_, h2.2.trans ?_⟩
      · rw [hst, if_neg (by omega)]
      · rw [hcl, if_neg (by omega)]
theorem flowStep_J {l : List Ins} {m h : List Int} (hF : Fine l m h) {i : Nat} (hi : i < l.length) {f f' : Flow} (hI : FlowI l f) (hJ : FlowJ l m i f) (hs : flowStep l m i f = .inr f') : FlowJ l m (i + 1) f' := by
  unfold flowStep at hs
  split at hs
  · cases hs
  · rename_i h1
    split at hs
    · cases hs
    · rename_i h2
      split at hs
      · cases hs
      · rename_i h3
        split at hs
        · cases hs
        · rename_i h4
          cases hs
          have h4' : aftE l f i = 0 := Decidable.not_not.1 h4
          obtain ⟨a1, a2, a3⟩ := fold_J hF hi (t := aftO l f i) (after_size _ _) (nextsI l i) [] hI hJ (fun q hq => ⟨nexts_gt hq, hF.next hi q hq⟩) (fun q hq => by cases hq)
          rw [Bool.not_eq_true] at h2
          show FlowJ l m (i + 1) ((nextsI l i).foldl (fun g k => handI k (aftO l f i) g) f)
          generalize (nextsI l i).foldl (fun g k => handI k (aftO l f i) g) f = g at a1 a2 a3
          refine ⟨fun j hj => ?_, fun j hj q hq => ?_, fun j hj ho => ?_, fun j hj => ?_, a1.z⟩
          · rcases Nat.lt_or_ge j i with h | h
            · exact a1.ok j h
            · have : j = i := by omega
              subst this
              unfold aftE
              rw [(a3 j (Nat.le_refl _)).1]
              exact h4'
          · rcases Nat.lt_or_ge j i with h | h
            · exact a1.nx j h q hq
            · have : j = i := by omega
              subst this
              have := a2 q (by simpa using hq)
              refine ⟨this.1, fun hc => (this.2 hc).trans ?_⟩
              unfold aftO
              rw [(a3 j (Nat.le_refl _)).1]
          · rcases Nat.lt_or_ge j i with h | h
            · exact a1.nt j h ho
            · have : j = i := by omega
              subst this
              obtain ⟨k, k1, k2, _⟩ := hF.closed.cl j hi (.inl ho)
              rw [k1, Int.toNat_natCast] at h3 ⊢
              rw [(a3 j (Nat.le_refl _)).1, (a3 k (by omega)).1]
              cases h5 : neB (stF f k) (stF f j)
              · exact neB_false h5
              · exact absurd ⟨ho, h5⟩ h3
          · rcases Nat.lt_or_ge j i with h | h
            · exact a1.cl j h
            · have : j = i := by omega
              subst this
              rw [(a3 j (Nat.le_refl _)).2]
              exact h2
theorem stacksS_J {l : List Ins} {m h : List Int} (hF : Fine l m h) : ∀ (r i : Nat) {f f' : Flow}, FlowI l f → FlowJ l m i f → r + i = l.length → stacksS l m r i f = .inr f' → FlowI l f' ∧ FlowJ l m l.length f'
  | 0, i, f, f', hI, hJ, hr, hs => by
    cases hs
    have : i = l.length := by omega
    subst this
    exact ⟨hI, hJ⟩
  | r + 1, i, f, f', hI, hJ, hr, hs => by
    unfold stacksS at hs
    cases hq : flowStep l m i f with
    | inl e => rw [hq] at hs; cases hs
    | inr g => rw [hq] at hs; exact stacksS_J hF r (i + 1) (flowStep_ok hI hq) (flowStep_J hF (by omega) hI hJ hq) (by omega) hs
theorem stacksS_ne {l : List Ins} {m : List Int} : ∀ (r i : Nat) {f : Flow} {e : Int}, stacksS l m r i f = .inl e → e ≠ 0
  | 0, i, f, e, h => by cases h
  | r + 1, i, f, e, h => by
    unfold stacksS at h
    cases hq : flowStep l m i f with
    | inr g => rw [hq] at h; exact stacksS_ne r (i + 1) h
    | inl x =>
      rw [hq] at h
      cases h
      unfold flowStep at hq
      split at hq
      · cases hq; decide
      · split at hq
        · cases hq; decide
        · split at hq
          · cases hq; decide
          · split at hq
            · rename_i h4
              cases hq
              exact h4
            · cases hq
noncomputable def stacksL (l : List Ins) : List ByteArray := if wholeI l ≠ 0 then [] else match stacksS l (scanI l).1 l.length 0 (flow0 l) with
  | .inl _ => []
  | .inr s => s.1
abbrev stL (st : List ByteArray) (k : Nat) : ByteArray := st.getD k ByteArray.empty
structure Stk (l : List Ins) (m : List Int) (st : List ByteArray) : Prop where
  len : st.length = l.length
  sz : ∀ k, (stL st k).size ≤ 16
  ok : ∀ j, j < l.length → (afterI (l.getD j (0, 0, 0)) (stL st j)).2 = 0
  nx : ∀ j, j < l.length → ∀ q ∈ nextsI l j, stL st q = (afterI (l.getD j (0, 0, 0)) (stL st j)).1
  nt : ∀ j, j < l.length → opAt l j = 22 → stL st (m.getD j 0).toNat = stL st j
  z : stL st 0 = ByteArray.empty
theorem stacks_Stk {l : List Ins} (h : stacksI l = 0) : wholeI l = 0 ∧ Stk l (scanI l).1 (stacksL l) := by
  unfold stacksI at h
  by_cases hw : wholeI l = 0
  · refine ⟨hw, ?_⟩
    have hF := whole_fine hw
    have hl := hF.len
    rw [if_neg (fun h => h hw)] at h
    unfold stacksL
    rw [if_neg (fun h => h hw)]
    cases hq : stacksS l (scanI l).1 l.length 0 (flow0 l) with
    | inl e =>
      rw [hq] at h
      exact absurd h (stacksS_ne _ _ hq)
    | inr s =>
      have h0 : FlowJ l (scanI l).1 0 (flow0 l) := ⟨fun j hj => by omega, fun j hj => by omega, fun j hj => by omega, fun j hj => by omega, by
        unfold flow0 stF
        simp only [List.getD_eq_getElem?_getD, List.getElem?_replicate]
        split <;> rfl⟩
      obtain ⟨hI, hJ⟩ := stacksS_J hF l.length 0 (flow0_ok l) h0 (by omega) hq
      exact ⟨hI.a, hI.s, hJ.ok, fun j hj q hq => (hJ.nx j hj q hq).2 (hJ.cl q (hF.next hj q hq)), hJ.nt, hJ.z⟩
  · rw [if_pos hw] at h
    exact absurd h hw
theorem stacks_is2 (n : Nat) (l : List Ins) (hl : l.length < n) (hn3 : 3 < n) (hn : n < 1000000) : Kq4.f n l = some (stacksL l, stacksI l) := by
  unfold Kq4.f stacksI stacksL
  rw [whole_is n l hl hn, Option.bind_some]
  by_cases hw : wholeI l = 0
  · have hF := whole_fine hw
    have hI := flow0_ok l
    obtain ⟨l1, l2⟩ := hF.len
    obtain ⟨a, b, c, d, e, h⟩ := stacks_loop n hn3 hn hF n 0 hI (Nat.zero_le _) (by omega)
    have c1 : (decide (0 ≤ (l.length : Int)) && ((l.length : Int) == (l.length : Int)) && decide ((l.length : Int) * (16 : Int) ≤ 140737488355328) && decide (1 ≤ 16)) = true := by simp; omega
    have c2 : (decide (0 ≤ (l.length : Int)) && ((l.length : Int) == (l.length : Int)) && decide ((l.length : Int) * (1 : Int) ≤ 140737488355328) && decide (1 ≤ 1)) = true := by simp; omega
    rw [if_neg (fun h => (bne_iff_ne.1 h) hw), match_is n l hl hn, Option.bind_some, if_pos c1, if_pos c2, if_pos c2, if_neg (show ¬ (wholeI l ≠ 0) from fun h => h hw), if_neg (show ¬ (wholeI l ≠ 0) from fun h => h hw), Int.toNat_natCast]
    have hX : FlowI l (List.replicate l.length ByteArray.empty, List.replicate l.length false, List.replicate l.length false) := ⟨by simp, by simp, by simp, hI.s⟩
    have e0 : handI 0 (ByteArray.mk #[]) (List.replicate l.length ByteArray.empty, List.replicate l.length false, List.replicate l.length false) = flow0 l := by
      unfold handI flow0
      have e1 : (ByteArray.mk #[]) = ByteArray.empty := rfl
      have e2 : (List.replicate l.length false).getD 0 false = false := by
        simp only [List.getD_eq_getElem?_getD, List.getElem?_replicate]
        split <;> rfl
      simp only [e1, List.set_replicate_self, e2]
      rfl
    have h0 := stacks_hand n hX l1 (ByteArray.mk #[]) fun a b c d e => (Kq4.b3.l n ((scanI l).1, l, (l.length : Int), 0, c, d, e)).bind fun y4 => ((Sum.elim (fun (z5 : (((List ByteArray) × Int × Unit) × (((List ByteArray) × (List Bool) × (List Bool) × Unit) × Unit))) => (some (z5.1.1, z5.1.2.1))) (fun (z6 : (Unit × (((List ByteArray) × (List Bool) × (List Bool) × Unit) × Unit))) => (some (z6.2.1.1, (0 : Int))))) y4)
    rw [e0] at h0
    unfold Kq4.b3.l at h0 ⊢
    rw [Nat.sub_zero] at h
    refine h0.trans ?_
    rw [show ((0 : Nat) : Int) = 0 from rfl] at h
    rw [h]
    cases hq : stacksS l (scanI l).1 l.length 0 (flow0 l) with
    | inl z => rfl
    | inr s' => rfl
  · rw [if_pos (by simp only [bne_iff_ne, ne_eq]; exact hw), if_pos hw, if_pos hw]
end Go.Proofs.Dk

/- Plain: the loops and locks around a place, from step to step. -/
namespace Go.Proofs.Dk
open Go
set_option maxRecDepth 100000
set_option linter.unusedVariables false
set_option linter.unusedSimpArgs false
theorem bool_iff {a b : Bool} (h : a = true ↔ b = true) : a = b := Bool.eq_iff_iff.2 h
theorem enc_open {l : List Ins} {m : List Int} {k i : Nat} (h : enc l m k i = true) : k < i ∧ isOpen l k = true := by
  unfold enc at h
  rw [Bool.and_eq_true, decide_eq_true_eq, Bool.and_eq_true] at h
  exact ⟨h.1, h.2.1⟩
theorem open_lt {l : List Ins} {k : Nat} (h : isOpen l k = true) : k < l.length := by
  rcases Nat.lt_or_ge k l.length with h1 | h1
  · exact h1
  · unfold isOpen at h
    rw [List.getD_eq_getElem?_getD, List.getElem?_eq_none h1] at h
    cases h
theorem isOpen_op {l : List Ins} {i : Nat} (h : opAt l i = 21 ∨ opAt l i = 23) : isOpen l i = true := isOpen_iff.2 h
theorem enc_succ {l : List Ins} {m h : List Int} (hF : Fine l m h) {i : Nat} (hi : i < l.length) (h22 : opAt l i ≠ 22) (h24 : opAt l i ≠ 24) (k : Nat) : enc l m k (i + 1) = ((decide (k = i) && isOpen l i) || enc l m k i) := by
  apply bool_iff
  by_cases ho : isOpen l k = true
  · obtain ⟨j, j1, j2, j3⟩ := hF.nest.open_ k (open_lt ho) ho
    obtain ⟨j', e1, e2, e3, e4, e5⟩ := hF.closed.op_ k (open_lt ho) ho
    have hj : j = j' := by rw [j1] at e1; omega
    subst hj
    have hji : j ≠ i := fun hc => by
      subst hc
      have := ends_op (l.getD k (0, 0, 0))
      rw [← e4] at this
      exact this.elim h22 h24
    rw [enc_iff ho j1, Bool.or_eq_true, Bool.and_eq_true, decide_eq_true_eq, enc_iff ho j1]
    constructor
    · rintro ⟨h1, h2⟩
      by_cases hk : k = i
      · exact .inl ⟨hk, hk ▸ ho⟩
      · exact .inr ⟨by omega, by omega⟩
    · rintro (⟨h1, h2⟩ | ⟨h1, h2⟩)
      · subst h1; exact ⟨by omega, by omega⟩
      · exact ⟨by omega, by omega⟩
  · rw [Bool.or_eq_true, Bool.and_eq_true, decide_eq_true_eq]
    constructor
    · intro h; exact absurd (enc_open h).2 ho
    · rintro (⟨h1, h2⟩ | h)
      · subst h1; exact absurd h2 ho
      · exact absurd (enc_open h).2 ho
theorem enc_close {l : List Ins} {m h : List Int} (hF : Fine l m h) {i : Nat} (hi : i < l.length) (hc : opAt l i = 22 ∨ opAt l i = 24) : ∃ k0 : Nat, m.getD i 0 = (k0 : Int) ∧ k0 < i ∧ isOpen l k0 = true ∧ m.getD k0 0 = (i : Int) ∧ l.getD i (0, 0, 0) = ends (l.getD k0 (0, 0, 0)) ∧
    (∀ k, enc l m k i = (decide (k = k0) || enc l m k k0)) ∧ (∀ k, enc l m k (i + 1) = enc l m k k0) := by
  obtain ⟨k0, a1, a2, a3, a4, a5⟩ := hF.closed.cl i hi hc
  have key : ∀ k, isOpen l k = true → ∀ j : Nat, m.getD k 0 = (j : Int) → ((k < i ∧ i ≤ j) ↔ (k = k0 ∨ (k < k0 ∧ k0 ≤ j))) ∧ ((k < i + 1 ∧ i + 1 ≤ j) ↔ (k < k0 ∧ k0 ≤ j)) := by
    intro k ho j j1
    have hin : isOpen l i = false := hF.nest.clos k0 i (by omega) a3 a4
    have hki : k ≠ i := fun hc => by subst hc; rw [ho] at hin; cases hin
    have c1 : k0 < k → k < i → j < i := fun h1 h2 => by
      obtain ⟨q, q1, q2⟩ := hF.nest.cross k0 k i h1 h2 (by omega) a3 ho a4
      rw [j1] at q1; omega
    have c2 : k < k0 → k0 < j → i < j := fun h1 h2 => by
      obtain ⟨q, q1, q2⟩ := hF.nest.cross k k0 j h1 h2 (open_lt ho) ho a3 j1
      rw [a4] at q1; omega
    have c3 : j ≠ k0 := fun hc => by
      have := hF.nest.clos k j (open_lt ho) ho j1
      rw [hc, a3] at this; cases this
    have c4 : k = k0 → j = i := fun hc => by subst hc; rw [a4] at j1; omega
    refine ⟨⟨fun ⟨h1, h2⟩ => ?_, fun h => ?_⟩, ⟨fun ⟨h1, h2⟩ => ?_, fun ⟨h1, h2⟩ => ?_⟩⟩
    · rcases Nat.lt_trichotomy k k0 with h3 | h3 | h3
      · exact .inr ⟨h3, by omega⟩
      · exact .inl h3
      · have := c1 h3 h1; omega
    · rcases h with h3 | ⟨h3, h4⟩
      · have := c4 h3; exact ⟨by omega, by omega⟩
      · have := c2 h3 (by omega); exact ⟨by omega, by omega⟩
    · rcases Nat.lt_trichotomy k k0 with h3 | h3 | h3
      · exact ⟨h3, by omega⟩
      · have := c4 h3; omega
      · have := c1 h3 (by omega); omega
    · have := c2 h1 (by omega); exact ⟨by omega, by omega⟩
  refine ⟨k0, a1, a2, a3, a4, a5, fun k => bool_iff ?_, fun k => bool_iff ?_⟩
  · by_cases ho : isOpen l k = true
    · obtain ⟨j, j1, j2, j3⟩ := hF.nest.open_ k (open_lt ho) ho
      rw [enc_iff ho j1, Bool.or_eq_true, decide_eq_true_eq, enc_iff ho j1]
      exact (key k ho j j1).1
    · rw [Bool.or_eq_true, decide_eq_true_eq]
      exact ⟨fun h => absurd (enc_open h).2 ho, fun h => h.elim (fun h => absurd (h ▸ a3) ho) (fun h => absurd (enc_open h).2 ho)⟩
  · by_cases ho : isOpen l k = true
    · obtain ⟨j, j1, j2, j3⟩ := hF.nest.open_ k (open_lt ho) ho
      rw [enc_iff ho j1, enc_iff ho j1]
      exact (key k ho j j1).2
    · exact ⟨fun h => absurd (enc_open h).2 ho, fun h => absurd (enc_open h).2 ho⟩
theorem filter_range {P : Nat → Bool} {a : Nat} : ∀ (d : Nat), (∀ k, a ≤ k → P k = false) → (List.range (a + d)).filter P = (List.range a).filter P
  | 0, h => rfl
  | d + 1, h => by
    rw [← Nat.add_assoc, List.range_succ, List.filter_append, filter_range d h, List.filter_cons, h (a + d) (by omega)]
    simp
theorem filter_range2 {P : Nat → Bool} {a b : Nat} (hab : a ≤ b) (h : ∀ k, a ≤ k → P k = false) : (List.range b).filter P = (List.range a).filter P := by
  have := filter_range (P := P) (a := a) (b - a) h
  rw [show a + (b - a) = b by omega] at this
  exact this
theorem filter_congr2 {P Q : Nat → Bool} {l : List Nat} (h : ∀ k, P k = Q k) : l.filter P = l.filter Q := by
  have : P = Q := funext h
  rw [this]
def lps (l : List Ins) (m : List Int) (i : Nat) : List Nat := (List.range i).filter fun k => enc l m k i && opAt l k == 21
theorem enc_ge {l : List Ins} {m : List Int} {i k : Nat} (h : i ≤ k) : enc l m k i = false := by
  cases h2 : enc l m k i
  · rfl
  · have := (enc_open h2).1; omega
theorem lps_same {l : List Ins} {m : List Int} {i q : Nat} (hiq : i ≤ q) (h : ∀ k, opAt l k = 21 → enc l m k q = enc l m k i) : lps l m q = lps l m i := by
  unfold lps
  have e : ∀ k, (enc l m k q && opAt l k == 21) = (enc l m k i && opAt l k == 21) := fun k => by
    cases h2 : (opAt l k == 21)
    · rw [Bool.and_false, Bool.and_false]
    · rw [h k (eq_of_beq h2)]
  rw [filter_congr2 e]
  exact filter_range2 hiq fun k hk => by rw [enc_ge hk, Bool.false_and]
theorem lps_plain {l : List Ins} {m h : List Int} (hF : Fine l m h) {i : Nat} (hi : i < l.length) (h21 : opAt l i ≠ 21) (h22 : opAt l i ≠ 22) (h24 : opAt l i ≠ 24) : lps l m (i + 1) = lps l m i :=
  lps_same (by omega) fun k hk => by
    rw [enc_succ hF hi h22 h24]
    by_cases hki : k = i
    · exact absurd (hki ▸ hk) h21
    · rw [decide_eq_false hki]; rfl
theorem lps_jump {l : List Ins} {m h : List Int} (hF : Fine l m h) {i : Nat} (hi : i < l.length) (hj : opAt l i = 19 ∨ opAt l i = 20) : lps l m (jumpTo l i) = lps l m i :=
  lps_same (Nat.le_of_lt (jumpTo_gt l i)) fun k _ => hF.jump_enc hi hj k
theorem lps_loop {l : List Ins} {m h : List Int} (hF : Fine l m h) {i : Nat} (hi : i < l.length) (h21 : opAt l i = 21) : lps l m (i + 1) = lps l m i ++ [i] := by
  have ho := isOpen_op (.inl h21)
  unfold lps
  have e : ∀ k, (enc l m k (i + 1) && opAt l k == 21) = ((decide (k = i) || enc l m k i) && opAt l k == 21) := fun k => by
    rw [enc_succ hF hi (by rw [h21]; decide) (by rw [h21]; decide), ho, Bool.and_true]
  rw [filter_congr2 e, List.range_succ, List.filter_append]
  congr 1
  · apply List.filter_congr
    intro k hk
    rw [List.mem_range] at hk
    rw [decide_eq_false (by omega), Bool.false_or]
  · rw [List.filter_cons, decide_eq_true rfl, Bool.true_or, h21]
    rfl
theorem lps_unlock {l : List Ins} {m h : List Int} (hF : Fine l m h) {i : Nat} (hi : i < l.length) (h24 : opAt l i = 24) : lps l m (i + 1) = lps l m i := by
  obtain ⟨k0, a1, a2, a3, a4, a5, a6, a7⟩ := enc_close hF hi (.inr h24)
  refine lps_same (by omega) fun k hk => ?_
  rw [a7, a6]
  by_cases hkk : k = k0
  · subst hkk
    have : opAt l i = (ends (l.getD k (0, 0, 0))).1 := congrArg (·.1) a5
    unfold ends at this
    rw [if_pos (show (l.getD k (0, 0, 0)).1 = 21 from hk), h24] at this
    cases this
  · rw [decide_eq_false hkk, Bool.false_or]
theorem lps_next {l : List Ins} {m h : List Int} (hF : Fine l m h) {i : Nat} (hi : i < l.length) (h22 : opAt l i = 22) : ∃ k0 : Nat, m.getD i 0 = (k0 : Int) ∧ k0 < i ∧ opAt l k0 = 21 ∧ m.getD k0 0 = (i : Int) ∧ lps l m i = lps l m k0 ++ [k0] ∧ lps l m (k0 + 1) = lps l m k0 ++ [k0] ∧ lps l m (i + 1) = lps l m k0 := by
  obtain ⟨k0, a1, a2, a3, a4, a5, a6, a7⟩ := enc_close hF hi (.inl h22)
  have h21 : opAt l k0 = 21 := by
    rcases isOpen_iff.1 a3 with h | h
    · exact h
    · have : opAt l i = (ends (l.getD k0 (0, 0, 0))).1 := congrArg (·.1) a5
      unfold ends at this
      rw [if_neg (show ¬ (l.getD k0 (0, 0, 0)).1 = 21 from fun h2 => by unfold opAt at h; rw [h2] at h; cases h), h22] at this
      cases this
  refine ⟨k0, a1, a2, h21, a4, ?_, lps_loop hF (by omega) h21, ?_⟩
  · rw [← lps_loop hF (by omega) h21]
    refine lps_same (by omega) fun k hk => ?_
    rw [a6, enc_succ hF (by omega) (by rw [h21]; decide) (by rw [h21]; decide), a3, Bool.and_true]
  · exact lps_same (by omega) fun k hk => a7 k
theorem lps_mem {l : List Ins} {m : List Int} {i k : Nat} (h : k ∈ lps l m i) : enc l m k i = true ∧ opAt l k = 21 := by
  unfold lps at h
  rw [List.mem_filter, Bool.and_eq_true, beq_iff_eq] at h
  exact h.2
theorem HeldB.same {l : List Ins} {m : List Int} {i q v : Nat} (h : HeldB l m i v) (he : ∀ k, opAt l k = 23 → enc l m k q = enc l m k i) : HeldB l m q v :=
  ⟨h.1, fun b => (h.2 b).trans ⟨fun ⟨k, k1, k2, k3⟩ => ⟨k, (he k k2).trans k1, k2, k3⟩, fun ⟨k, k1, k2, k3⟩ => ⟨k, (he k k2).symm.trans k1, k2, k3⟩⟩⟩
theorem HeldB.plain {l : List Ins} {m h : List Int} (hF : Fine l m h) {i v : Nat} (hi : i < l.length) (hv : HeldB l m i v) (h23 : opAt l i ≠ 23) (h22 : opAt l i ≠ 22) (h24 : opAt l i ≠ 24) : HeldB l m (i + 1) v :=
  hv.same fun k hk => by
    rw [enc_succ hF hi h22 h24]
    by_cases hki : k = i
    · exact absurd (hki ▸ hk) h23
    · rw [decide_eq_false hki]; rfl
theorem HeldB.jump {l : List Ins} {m h : List Int} (hF : Fine l m h) {i v : Nat} (hi : i < l.length) (hv : HeldB l m i v) (hj : opAt l i = 19 ∨ opAt l i = 20) : HeldB l m (jumpTo l i) v := hv.same fun k _ => hF.jump_enc hi hj k
theorem HeldB.next {l : List Ins} {m h : List Int} (hF : Fine l m h) {i v : Nat} (hi : i < l.length) (hv : HeldB l m i v) (h22 : opAt l i = 22) : ∃ k0 : Nat, m.getD i 0 = (k0 : Int) ∧ HeldB l m (k0 + 1) v ∧ HeldB l m (i + 1) v := by
  obtain ⟨k0, a1, a2, a3, a4, a5, a6, a7⟩ := enc_close hF hi (.inl h22)
  obtain ⟨k1, b1, b2, b3, b4, b5⟩ := lps_next hF hi h22
  have : k0 = k1 := by rw [a1] at b1; omega
  subst this
  refine ⟨k0, a1, ?_, ?_⟩
  · refine hv.same fun k hk => ?_
    rw [a6, enc_succ hF (by omega) (by rw [b3]; decide) (by rw [b3]; decide), a3, Bool.and_true]
  · refine hv.same fun k hk => ?_
    rw [a7, a6]
    by_cases hkk : k = k0
    · subst hkk; rw [b3] at hk; cases hk
    · rw [decide_eq_false hkk, Bool.false_or]
theorem HeldB.lockS {l : List Ins} {m h : List Int} (hF : Fine l m h) {i v : Nat} (hi : i < l.length) (hv : HeldB l m i v) (h23 : opAt l i = 23) {a : Nat} (ha : argA l i = (a : Int)) (ha7 : a ≤ 7) : HeldB l m (i + 1) (v ||| 2 ^ a) := by
  have ho := isOpen_op (.inr h23)
  refine ⟨Nat.or_lt_two_pow (n := 8) hv.1 (Nat.pow_lt_pow_right (by omega) (by omega)), fun b => ?_⟩
  rw [Nat.testBit_or, Bool.or_eq_true, hv.2 b, Nat.testBit_two_pow, decide_eq_true_eq]
  constructor
  · rintro (⟨k, k1, k2, k3⟩ | h1)
    · exact ⟨k, by rw [enc_succ hF hi (by rw [h23]; decide) (by rw [h23]; decide), k1, Bool.or_true], k2, k3⟩
    · subst h1
      exact ⟨i, by rw [enc_succ hF hi (by rw [h23]; decide) (by rw [h23]; decide), ho, decide_eq_true rfl]; rfl, h23, ha⟩
  · rintro ⟨k, k1, k2, k3⟩
    rw [enc_succ hF hi (by rw [h23]; decide) (by rw [h23]; decide), ho, Bool.and_true, Bool.or_eq_true, decide_eq_true_eq] at k1
    rcases k1 with k1 | k1
    · subst k1
      right
      have : argA l k = (b : Int) := k3
      rw [ha] at this
      omega
    · exact .inl ⟨k, k1, k2, k3⟩
def Rise (l : List Ins) (m : List Int) : Prop := ∀ i k, i < l.length → opAt l i = 23 → enc l m k i = true → opAt l k = 23 → argA l k < argA l i
theorem HeldB.unlock {l : List Ins} {m h : List Int} (hF : Fine l m h) (hR : Rise l m) {i v : Nat} (hi : i < l.length) (hv : HeldB l m i v) (h24 : opAt l i = 24) {a : Nat} (ha : argA l i = (a : Int)) {w : Nat} (hw : w < 256) (hwv : ∀ b, w.testBit b = (v.testBit b && decide (b ≠ a))) : HeldB l m (i + 1) w := by
  obtain ⟨k0, a1, a2, a3, a4, a5, a6, a7⟩ := enc_close hF hi (.inr h24)
  have h23 : opAt l k0 = 23 ∧ argA l k0 = argA l i := by
    rcases isOpen_iff.1 a3 with h | h
    · have : opAt l i = (ends (l.getD k0 (0, 0, 0))).1 := congrArg (·.1) a5
      unfold ends at this
      rw [if_pos (show (l.getD k0 (0, 0, 0)).1 = 21 from h), h24] at this
      cases this
    · refine ⟨h, ?_⟩
      have : argA l i = (ends (l.getD k0 (0, 0, 0))).2.1 := congrArg (·.2.1) a5
      unfold ends at this
      rw [if_neg (show ¬ (l.getD k0 (0, 0, 0)).1 = 21 from fun h2 => by unfold opAt at h; rw [h2] at h; cases h)] at this
      exact this.symm
  refine ⟨hw, fun b => ?_⟩
  rw [hwv b, Bool.and_eq_true, hv.2 b, decide_eq_true_eq]
  constructor
  · rintro ⟨⟨k, k1, k2, k3⟩, hb⟩
    refine ⟨k, ?_, k2, k3⟩
    rw [a6, Bool.or_eq_true, decide_eq_true_eq] at k1
    rw [a7]
    rcases k1 with k1 | k1
    · subst k1
      have : argA l k = (b : Int) := k3
      rw [h23.2, ha] at this
      omega
    · exact k1
  · rintro ⟨k, k1, k2, k3⟩
    rw [a7] at k1
    refine ⟨⟨k, by rw [a6, k1, Bool.or_true], k2, k3⟩, fun hb => ?_⟩
    have := hR k0 k (by omega) h23.1 k1 k2
    have k3' : argA l k = (b : Int) := k3
    rw [h23.2, ha, k3'] at this
    omega
theorem locks_whole2 {l : List Ins} (h : locksI l = 0) : wholeI l = 0 := by
  unfold locksI at h
  split at h
  · exact h
  · rename_i h1
    exact Decidable.not_not.1 h1
theorem locks_rise {l : List Ins} (h : locksI l = 0) : Rise l (scanI l).1 := by
  intro i k hi h23 he hk
  have hw := locks_whole2 h
  unfold locksI at h
  rw [if_neg (fun h2 => h2 hw)] at h
  split at h
  · rename_i h1
    have h2 := allF_iff.1 h1 i (Nat.zero_le _) (by omega)
    unfold okQ badI at h2
    rw [if_pos h23] at h2
    rw [Bool.not_eq_true', Bool.or_eq_false_iff] at h2
    have h3 := h2.2
    rcases Int.lt_or_le (argA l k) (argA l i) with h4 | h4
    · exact h4
    · exfalso
      have : overB l (scanI l).1 i = true := anyB_iff.2 ⟨k, (enc_open he).1, by rw [he, hk, decide_eq_true h4]; rfl⟩
      rw [this] at h3
      cases h3
  · cases h
end Go.Proofs.Dk

/- Plain: numbers that go with the types of a stack. -/
namespace Go.Proofs.Dk
open Go
set_option maxRecDepth 100000
set_option linter.unusedVariables false
set_option linter.unusedSimpArgs false
def tyOk (c : UInt8) (x : Int) : Prop := c.toNat = 98 → x = 0 ∨ x = 1
def VTl : List UInt8 → List Int → Prop
  | [], [] => True
  | c :: cs, x :: xs => tyOk c x ∧ VTl cs xs
  | [], _ :: _ => False
  | _ :: _, [] => False
theorem VTl_len : ∀ {cs : List UInt8} {v : List Int}, VTl cs v → v.length = cs.length
  | [], [], _ => rfl
  | c :: cs, x :: xs, h => congrArg (· + 1) (VTl_len h.2)
theorem VTl_app : ∀ {a b : List UInt8} {v w : List Int}, VTl a v → VTl b w → VTl (a ++ b) (v ++ w)
  | [], b, [], w, _, h => h
  | c :: cs, b, x :: xs, w, h, h' => ⟨h.1, VTl_app h.2 h'⟩
theorem VTl_split : ∀ {a b : List UInt8} {v : List Int}, VTl (a ++ b) v → ∃ r w, v = r ++ w ∧ VTl a r ∧ VTl b w
  | [], b, v, h => ⟨[], v, rfl, trivial, h⟩
  | c :: cs, b, x :: xs, h => by
    obtain ⟨r, w, e, h1, h2⟩ := VTl_split (a := cs) h.2
    exact ⟨x :: r, w, by rw [e]; rfl, ⟨h.1, h1⟩, h2⟩
theorem VTl_1 {c : UInt8} : ∀ {w : List Int}, VTl [c] w → ∃ x, w = [x] ∧ tyOk c x
  | [x], h => ⟨x, rfl, h.1⟩
  | _ :: _ :: _, h => h.2.elim
theorem VTl_2 {c d : UInt8} : ∀ {w : List Int}, VTl [c, d] w → ∃ x y, w = [x, y] ∧ tyOk c x ∧ tyOk d y
  | [x, y], h => ⟨x, y, rfl, h.1, h.2.1⟩
  | [_], h => h.2.elim
  | _ :: _ :: _ :: _, h => h.2.2.elim
theorem VTl_get : ∀ {cs : List UInt8} {v : List Int} {k : Nat}, VTl cs v → (cs.getD k 0).toNat = 98 → v.getD k 0 = 0 ∨ v.getD k 0 = 1
  | [], [], k, _, h => by simp at h
  | c :: cs, x :: xs, 0, h, h2 => h.1 h2
  | c :: cs, x :: xs, k + 1, h, h2 => VTl_get (k := k) h.2 h2
def VT (s : ByteArray) (v : List Int) : Prop := VTl s.data.toList v
theorem VT.len {s : ByteArray} {v : List Int} (h : VT s v) : v.length = s.size := (VTl_len h).trans Array.length_toList
theorem VT.get {s : ByteArray} {v : List Int} (h : VT s v) {k : Nat} (h2 : bt s (k : Int) = 98) : v.getD k 0 = 0 ∨ v.getD k 0 = 1 := by
  unfold bt at h2
  rw [Int.toNat_natCast] at h2
  exact VTl_get h (by omega)
theorem after_parts {x : Ins} {s : ByteArray} (h : (afterI x s).2 = 0) : ∃ (a : List UInt8) (T : ByteArray), s.data.toList = a ++ T.data.toList ∧ fitsB T (takesI x.1) = true ∧ (afterI x s).1.data.toList = a ++ (givesI x.1 x.2.1 T).data.toList := by
  unfold afterI at h ⊢
  split at h
  · cases h
  · rename_i h1
    rw [if_neg h1]
    split at h
    · rename_i h2
      rw [if_pos h2]
      split at h
      · cases h
      · rename_i h3
        rw [if_neg h3]
        refine ⟨(s.extract 0 (s.size - (takesI x.1).size)).data.toList, s.extract (s.size - (takesI x.1).size) s.size, ?_, h2, ?_⟩
        · rw [ByteArray.data_extract, ByteArray.data_extract, Array.toList_extract, Array.toList_extract, List.extract_eq_take_drop, List.extract_eq_take_drop]
          have e : s.data.toList.length = s.size := Array.length_toList
          generalize hn : s.size - (takesI x.1).size = n
          rw [List.drop_zero, List.take_of_length_le (l := List.drop n s.data.toList) (by rw [List.length_drop, e]; exact Nat.le_refl _), List.take_append_drop]
        · rw [ByteArray.data_append, Array.toList_append]
    · cases h
theorem fits_bt {T b : ByteArray} (h : fitsB T b = true) : T.size = b.size ∧ ∀ k, k < b.size → bt b (k : Int) = 32 ∨ bt b (k : Int) = bt T (k : Int) := by
  refine ⟨fits_size h, fun k hk => ?_⟩
  unfold fitsB at h
  rw [Bool.and_eq_true] at h
  have h2 := allF_iff.1 h.2 k (Nat.zero_le _) (by omega)
  unfold fitQ at h2
  rw [Bool.or_eq_true, beq_iff_eq, beq_iff_eq] at h2
  exact h2
theorem fits0 {T : ByteArray} (h : fitsB T (ByteArray.mk #[]) = true) : T.data.toList = [] := by
  have h1 := (fits_bt h).1
  apply List.eq_nil_of_length_eq_zero
  rw [Array.length_toList]
  exact h1
theorem fits1 {T : ByteArray} {c : UInt8} (h : fitsB T (ByteArray.mk #[c]) = true) : ∃ d : UInt8, T.data.toList = [d] ∧ (c.toNat = 32 ∨ d.toNat = c.toNat) := by
  obtain ⟨h1, h2⟩ := fits_bt h
  have h3 : T.data.toList.length = 1 := by rw [Array.length_toList]; exact h1
  obtain ⟨d, hd⟩ := List.length_eq_one_iff.1 h3
  refine ⟨d, hd, ?_⟩
  have h4 := h2 0 (by show 0 < 1; decide)
  unfold bt at h4
  rw [hd] at h4
  have e : (((ByteArray.mk #[c]).data.toList.getD ((0 : Nat) : Int).toNat 0).toNat : Int) = (c.toNat : Int) := rfl
  rw [e] at h4
  have e2 : (([d].getD ((0 : Nat) : Int).toNat 0).toNat : Int) = (d.toNat : Int) := rfl
  rw [e2] at h4
  omega
theorem fits2 {T : ByteArray} {c c' : UInt8} (h : fitsB T (ByteArray.mk #[c, c']) = true) : ∃ d d' : UInt8, T.data.toList = [d, d'] ∧ (c.toNat = 32 ∨ d.toNat = c.toNat) ∧ (c'.toNat = 32 ∨ d'.toNat = c'.toNat) := by
  obtain ⟨h1, h2⟩ := fits_bt h
  have h3 : T.data.toList.length = 2 := by rw [Array.length_toList]; exact h1
  obtain ⟨d, d', hd⟩ : ∃ d d', T.data.toList = [d, d'] := by
    match hT : T.data.toList, h3 with
    | [d, d'], _ => exact ⟨d, d', rfl⟩
  refine ⟨d, d', hd, ?_, ?_⟩
  · have h4 := h2 0 (by show 0 < 2; decide)
    unfold bt at h4
    rw [hd] at h4
    have e : (((ByteArray.mk #[c, c']).data.toList.getD ((0 : Nat) : Int).toNat 0).toNat : Int) = (c.toNat : Int) := rfl
    have e2 : (([d, d'].getD ((0 : Nat) : Int).toNat 0).toNat : Int) = (d.toNat : Int) := rfl
    rw [e, e2] at h4
    omega
  · have h4 := h2 1 (by show 1 < 2; decide)
    unfold bt at h4
    rw [hd] at h4
    have e : (((ByteArray.mk #[c, c']).data.toList.getD ((1 : Nat) : Int).toNat 0).toNat : Int) = (c'.toNat : Int) := rfl
    have e2 : (([d, d'].getD ((1 : Nat) : Int).toNat 0).toNat : Int) = (d'.toNat : Int) := rfl
    rw [e, e2] at h4
    omega
theorem VT_app {s' : ByteArray} {a g : List UInt8} {r w : List Int} (e : s'.data.toList = a ++ g) (h1 : VTl a r) (h2 : VTl g w) : VT s' (r ++ w) := by
  unfold VT
  rw [e]
  exact VTl_app h1 h2
theorem ty105 (x : Int) : tyOk 105 x := fun h => by cases h
theorem vt_zero {o A B : Int} {s : ByteArray} {v : List Int} (h : (afterI (o, A, B) s).2 = 0) (hv : VT s v) (e : takesI o = ByteArray.mk #[]) {w : List Int} {g : List UInt8} (hg : (givesI o A (ByteArray.mk #[])).data.toList = g) (hw : VTl g w) : VT (afterI (o, A, B) s).1 (v ++ w) := by
  obtain ⟨a, T, h1, h2, h3⟩ := after_parts h
  have h2' : fitsB T (takesI o) = true := h2
  rw [e] at h2'
  have hT := fits0 h2'
  have hT2 : T = ByteArray.mk #[] := by
    cases T
    congr 1
    exact Array.toList_inj.1 hT
  subst hT2
  rw [hT, List.append_nil] at h1
  have hv' : VTl a v := by unfold VT at hv; rw [h1] at hv; exact hv
  exact VT_app (h3.trans (congrArg (a ++ ·) hg)) hv' hw
theorem vt_in {o A B : Int} {s : ByteArray} {v : List Int} (h : (afterI (o, A, B) s).2 = 0) (hv : VT s v) (e : o = 1 ∨ o = 11 ∨ o = 13 ∨ o = 15 ∨ o = 17) (y : Int) : VT (afterI (o, A, B) s).1 (v ++ [y]) := by
  have hg : (givesI o A (ByteArray.mk #[])).data.toList = [105] := by
    unfold givesI
    rw [if_pos (by omega)]
  have hw : VTl [105] [y] := ⟨ty105 y, trivial⟩
  have ht : takesI o = ByteArray.mk #[] := by rcases e with rfl | rfl | rfl | rfl | rfl <;> kernel_rfl
  exact vt_zero h hv ht hg hw
theorem vt_no {o A B : Int} {s : ByteArray} {v : List Int} (h : (afterI (o, A, B) s).2 = 0) (hv : VT s v) (e : o = 19 ∨ o = 21 ∨ o = 22 ∨ o = 23 ∨ o = 24 ∨ o = 25) : VT (afterI (o, A, B) s).1 v := by
  have hg : (givesI o A (ByteArray.mk #[])).data.toList = [] := by
    unfold givesI
    rw [if_neg (by omega), if_neg (by omega), if_neg (by omega), if_neg (by omega), if_neg (by omega)]
  have hw : VTl [] [] := trivial
  have ht : takesI o = ByteArray.mk #[] := by rcases e with rfl | rfl | rfl | rfl | rfl | rfl <;> kernel_rfl
  have := vt_zero h hv ht hg hw
  rw [List.append_nil] at this
  exact this
theorem vt_one {o A B : Int} {s : ByteArray} {v : List Int} (h : (afterI (o, A, B) s).2 = 0) (hv : VT s v) {c : UInt8} (e : takesI o = ByteArray.mk #[c]) : ∃ (a : List UInt8) (r : List Int) (x : Int) (T : ByteArray) (d : UInt8), v = r ++ [x] ∧ T.data.toList = [d] ∧ (c.toNat = 32 ∨ d.toNat = c.toNat) ∧ tyOk d x ∧ VTl a r ∧ (afterI (o, A, B) s).1.data.toList = a ++ (givesI o A T).data.toList := by
  obtain ⟨a, T, h1, h2, h3⟩ := after_parts h
  have h2' : fitsB T (takesI o) = true := h2
  rw [e] at h2'
  obtain ⟨d, hT, hd⟩ := fits1 h2'
  unfold VT at hv
  rw [h1, hT] at hv
  obtain ⟨r, w, e1, e2, e3⟩ := VTl_split hv
  obtain ⟨x, e4, e5⟩ := VTl_1 e3
  exact ⟨a, r, x, T, d, by rw [e1, e4], hT, hd, e5, e2, h3⟩
theorem vt_out {o A B : Int} {s : ByteArray} {v : List Int} (h : (afterI (o, A, B) s).2 = 0) (hv : VT s v) (e : o = 2 ∨ o = 12 ∨ o = 14 ∨ o = 16 ∨ o = 18 ∨ o = 20) : ∃ r x, v = r ++ [x] ∧ VT (afterI (o, A, B) s).1 r := by
  have hg : ∀ T, givesI o A T = ByteArray.mk #[] := fun T => by
    unfold givesI
    rw [if_neg (by omega), if_neg (by omega), if_neg (by omega), if_neg (by omega), if_neg (by omega)]
  have ht : ∃ c : UInt8, takesI o = ByteArray.mk #[c] := by
    rcases e with rfl | rfl | rfl | rfl | rfl | rfl
    · exact ⟨32, by kernel_rfl⟩
    · exact ⟨105, by kernel_rfl⟩
    · exact ⟨105, by kernel_rfl⟩
    · exact ⟨105, by kernel_rfl⟩
    · exact ⟨105, by kernel_rfl⟩
    · exact ⟨98, by kernel_rfl⟩
  obtain ⟨c, hc⟩ := ht
  obtain ⟨a, r, x, T, d, e1, e2, e3, e4, e5, e6⟩ := vt_one h hv hc
  rw [hg T] at e6
  have := VT_app (g := []) (w := []) e6 e5 trivial
  rw [List.append_nil] at this
  exact ⟨r, x, e1, this⟩
theorem vt_dup {o A B : Int} {s : ByteArray} {v : List Int} (h : (afterI (o, A, B) s).2 = 0) (hv : VT s v) (ho : o = 3) : ∃ r x, v = r ++ [x] ∧ VT (afterI (o, A, B) s).1 (r ++ [x, x]) := by
  have ht : takesI o = ByteArray.mk #[32] := by subst ho; kernel_rfl
  obtain ⟨a, r, x, T, d, e1, e2, e3, e4, e5, e6⟩ := vt_one h hv ht
  have hg : givesI o A T = T ++ T := by
    unfold givesI
    rw [if_neg (by omega), if_pos ho]
  rw [hg, ByteArray.data_append, Array.toList_append, e2] at e6
  exact ⟨r, x, e1, VT_app e6 e5 ⟨e4, e4, trivial⟩⟩
theorem vt_neg {o A B : Int} {s : ByteArray} {v : List Int} (h : (afterI (o, A, B) s).2 = 0) (hv : VT s v) (ho : o = 6) : ∃ r x, v = r ++ [x] ∧ ∀ z, VT (afterI (o, A, B) s).1 (r ++ [z]) := by
  have ht : takesI o = ByteArray.mk #[105] := by subst ho; kernel_rfl
  obtain ⟨a, r, x, T, d, e1, e2, e3, e4, e5, e6⟩ := vt_one h hv ht
  have hg : givesI o A T = ByteArray.mk #[105] := by
    unfold givesI
    rw [if_pos (by omega)]
  rw [hg] at e6
  exact ⟨r, x, e1, fun z => VT_app (g := [105]) e6 e5 ⟨ty105 z, trivial⟩⟩
theorem vt_not {o A B : Int} {s : ByteArray} {v : List Int} (h : (afterI (o, A, B) s).2 = 0) (hv : VT s v) (ho : o = 7) : ∃ r x, v = r ++ [x] ∧ (x = 0 ∨ x = 1) ∧ ∀ z, z = 0 ∨ z = 1 → VT (afterI (o, A, B) s).1 (r ++ [z]) := by
  have ht : takesI o = ByteArray.mk #[98] := by subst ho; kernel_rfl
  obtain ⟨a, r, x, T, d, e1, e2, e3, e4, e5, e6⟩ := vt_one h hv ht
  have hg : givesI o A T = ByteArray.mk #[98] := by
    unfold givesI
    rw [if_neg (by omega), if_neg (by omega), if_neg (by omega), if_neg (by omega), if_pos (by omega)]
  rw [hg] at e6
  exact ⟨r, x, e1, e4 (e3.elim (fun h => by cases h) fun h => h), fun z hz => VT_app (g := [98]) e6 e5 ⟨fun _ => hz, trivial⟩⟩
theorem vt_cast {o A B : Int} {s : ByteArray} {v : List Int} (h : (afterI (o, A, B) s).2 = 0) (hv : VT s v) (ho : o = 10) : VT (afterI (o, A, B) s).1 v := by
  have ht : takesI o = ByteArray.mk #[98] := by subst ho; kernel_rfl
  obtain ⟨a, r, x, T, d, e1, e2, e3, e4, e5, e6⟩ := vt_one h hv ht
  have hg : givesI o A T = ByteArray.mk #[105] := by
    unfold givesI
    rw [if_pos (by omega)]
  rw [hg] at e6
  rw [e1]
  exact VT_app (g := [105]) e6 e5 ⟨ty105 x, trivial⟩
theorem vt_two {o A B : Int} {s : ByteArray} {v : List Int} (h : (afterI (o, A, B) s).2 = 0) (hv : VT s v) {c c' : UInt8} (e : takesI o = ByteArray.mk #[c, c']) : ∃ (a : List UInt8) (r : List Int) (x y : Int) (T : ByteArray) (d d' : UInt8), v = r ++ [x, y] ∧ T.data.toList = [d, d'] ∧ (c.toNat = 32 ∨ d.toNat = c.toNat) ∧ (c'.toNat = 32 ∨ d'.toNat = c'.toNat) ∧ tyOk d x ∧ tyOk d' y ∧ VTl a r ∧ (afterI (o, A, B) s).1.data.toList = a ++ (givesI o A T).data.toList := by
  obtain ⟨a, T, h1, h2, h3⟩ := after_parts h
  have h2' : fitsB T (takesI o) = true := h2
  rw [e] at h2'
  obtain ⟨d, d', hT, hd, hd'⟩ := fits2 h2'
  unfold VT at hv
  rw [h1, hT] at hv
  obtain ⟨r, w, e1, e2, e3⟩ := VTl_split hv
  obtain ⟨x, y, e4, e5, e6⟩ := VTl_2 e3
  exact ⟨a, r, x, y, T, d, d', by rw [e1, e4], hT, hd, hd', e5, e6, e2, h3⟩
theorem vt_swap {o A B : Int} {s : ByteArray} {v : List Int} (h : (afterI (o, A, B) s).2 = 0) (hv : VT s v) (ho : o = 4) : ∃ r x y, v = r ++ [x, y] ∧ VT (afterI (o, A, B) s).1 (r ++ [y, x]) := by
  have ht : takesI o = ByteArray.mk #[32, 32] := by subst ho; kernel_rfl
  obtain ⟨a, r, x, y, T, d, d', e1, e2, e3, e3', e4, e4', e5, e6⟩ := vt_two h hv ht
  have hg : givesI o A T = T.extract 1 T.size ++ T.extract 0 1 := by
    unfold givesI
    rw [if_neg (by omega), if_neg (by omega), if_pos ho]
  have hs : T.size = 2 := by
    have : T.data.toList.length = T.size := Array.length_toList
    rw [e2] at this
    exact this.symm
  have e7 : (T.extract 1 T.size ++ T.extract 0 1).data.toList = [d', d] := by
    rw [ByteArray.data_append, Array.toList_append, ByteArray.data_extract, ByteArray.data_extract, Array.toList_extract, Array.toList_extract, List.extract_eq_take_drop, List.extract_eq_take_drop, e2, hs]
    rfl
  rw [hg, e7] at e6
  exact ⟨r, x, y, e1, VT_app e6 e5 ⟨e4', e4, trivial⟩⟩
theorem vt_bin {o A B : Int} {s : ByteArray} {v : List Int} (h : (afterI (o, A, B) s).2 = 0) (hv : VT s v) (ho : o = 5) : ∃ r x y, v = r ++ [x, y] ∧ ∀ z, (11 ≤ A → z = 0 ∨ z = 1) → VT (afterI (o, A, B) s).1 (r ++ [z]) := by
  have ht : takesI o = ByteArray.mk #[105, 105] := by subst ho; kernel_rfl
  obtain ⟨a, r, x, y, T, d, d', e1, e2, e3, e3', e4, e4', e5, e6⟩ := vt_two h hv ht
  refine ⟨r, x, y, e1, fun z hz => ?_⟩
  by_cases hA : A ≥ 11
  · have hg : givesI o A T = ByteArray.mk #[98] := by
      unfold givesI
      rw [if_neg (by omega), if_neg (by omega), if_neg (by omega), if_pos ho, if_pos hA]
    rw [hg] at e6
    exact VT_app (g := [98]) e6 e5 ⟨fun _ => hz hA, trivial⟩
  · have hg : givesI o A T = ByteArray.mk #[105] := by
      unfold givesI
      rw [if_neg (by omega), if_neg (by omega), if_neg (by omega), if_pos ho, if_neg hA]
    rw [hg] at e6
    exact VT_app (g := [105]) e6 e5 ⟨ty105 z, trivial⟩
theorem vt_log {o A B : Int} {s : ByteArray} {v : List Int} (h : (afterI (o, A, B) s).2 = 0) (hv : VT s v) (ho : o = 8 ∨ o = 9) : ∃ r x y, v = r ++ [x, y] ∧ (x = 0 ∨ x = 1) ∧ (y = 0 ∨ y = 1) ∧ ∀ z, z = 0 ∨ z = 1 → VT (afterI (o, A, B) s).1 (r ++ [z]) := by
  have ht : takesI o = ByteArray.mk #[98, 98] := by rcases ho with rfl | rfl <;> kernel_rfl
  have hg : ∀ T, givesI o A T = ByteArray.mk #[98] := fun T => by
    unfold givesI
    rw [if_neg (by omega), if_neg (by omega), if_neg (by omega), if_neg (by omega), if_pos (by omega)]
  obtain ⟨a, r, x, y, T, d, d', e1, e2, e3, e3', e4, e4', e5, e6⟩ := vt_two h hv ht
  rw [hg T] at e6
  exact ⟨r, x, y, e1, e4 (e3.elim (fun h => by cases h) fun h => h), e4' (e3'.elim (fun h => by cases h) fun h => h), fun z hz => VT_app (g := [98]) e6 e5 ⟨fun _ => hz, trivial⟩⟩
end Go.Proofs.Dk
