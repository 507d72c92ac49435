/- A part of the proofs: Plain: what closes, and what it closes. -/
import Derived.Test.YtfppdlcgipnacaaMB4
/- Plain: what closes, and what it closes. -/
namespace Go.Proofs.Dk
open Go
set_option maxRecDepth 100000
set_option linter.unusedVariables false
set_option linter.unusedSimpArgs false
theorem ends_op (x : Ins) : (ends x).1 = 22 ∨ (ends x).1 = 24 := by
  unfold ends
  split
  · exact .inl rfl
  · exact .inr rfl
theorem isOpen_iff {l : List Ins} {k : Nat} : isOpen l k = true ↔ opAt l k = 21 ∨ opAt l k = 23 := by
  unfold isOpen
  rw [Bool.or_eq_true, beq_iff_eq, beq_iff_eq]
theorem close_not {l : List Ins} {j k : Nat} (h : l.getD j (0, 0, 0) = ends (l.getD k (0, 0, 0))) : isOpen l j = false := by
  rw [Bool.eq_false_iff]
  intro h2
  rw [isOpen_iff] at h2
  have := ends_op (l.getD k (0, 0, 0))
  unfold opAt at h2
  rw [h] at h2
  omega
structure ScanK (l : List Ins) (i : Nat) (m : List Int) (op : List (Int × Ins)) : Prop where
  cl : ∀ j, j < i → opAt l j = 22 ∨ opAt l j = 24 → ∃ k : Nat, m.getD j 0 = (k : Int) ∧ k < j ∧ isOpen l k = true ∧ inOp op k = false ∧ m.getD k 0 = (j : Int) ∧ l.getD j (0, 0, 0) = ends (l.getD k (0, 0, 0))
  op_ : ∀ k, k < i → isOpen l k = true → inOp op k = true ∨ ∃ j : Nat, m.getD k 0 = (j : Int) ∧ k < j ∧ j < i ∧ l.getD j (0, 0, 0) = ends (l.getD k (0, 0, 0)) ∧ m.getD j 0 = (k : Int)
theorem inOp_false {op : List (Int × Ins)} {k : Nat} : inOp op k = false ↔ ∀ e ∈ op, e.1 ≠ (k : Int) := by
  unfold inOp
  rw [List.any_eq_false]
  simp
theorem inOp_true {op : List (Int × Ins)} {k : Nat} : inOp op k = true ↔ ∃ e ∈ op, e.1 = (k : Int) := by
  unfold inOp
  rw [List.any_eq_true]
  simp
theorem take_last {α : Type} {l : List α} {d : α} (h : 0 < l.length) : l = l.take (l.length - 1) ++ [l.getD (l.length - 1) d] := by
  have h1 : l.getD (l.length - 1) d = l[l.length - 1] := by
    rw [List.getD_eq_getElem?_getD, List.getElem?_eq_getElem (by omega)]
    rfl
  rw [h1]
  have h2 := List.take_append_getElem (l := l) (i := l.length - 1) (by omega)
  rw [h2, List.take_of_length_le (by omega)]
theorem ScanK.step {l : List Ins} {i : Nat} {m h m' h' : List Int} {op op' : List (Int × Ins)} (hI : ScanI l i m h op) (hJ : ScanJ l i m h op) (hK : ScanK l i m op) (hi : i < l.length) (hs : scanStep (l.getD i (0, 0, 0)) i m h op = some (m', h', op')) : ScanK l (i + 1) m' op' := by
  have him : i < m.length := by rw [hI.hm]; exact hi
  have m1 : ∀ k, k ≠ i → (m.set i (-1)).getD k 0 = m.getD k 0 := fun k hk => by rw [getD_set him, if_neg hk]
  unfold scanStep at hs
  simp only at hs
  by_cases ho : (l.getD i (0, 0, 0)).1 = 21 ∨ (l.getD i (0, 0, 0)).1 = 23
  · rw [if_pos ho] at hs
    simp only [Option.some.injEq, Prod.mk.injEq] at hs
    obtain ⟨rfl, rfl, rfl⟩ := hs
    refine ⟨fun j hj hc => ?_, fun k hk hk2 => ?_⟩
    · have : j ≠ i := fun e => by subst e; unfold opAt at hc; omega
      obtain ⟨k, k1, k2, k3, k4, k5, k6⟩ := hK.cl j (by omega) hc
      refine ⟨k, ?_, k2, k3, ?_, ?_, k6⟩
      · rw [m1 j this, k1]
      · rw [inOp_append, k4, inOp_false.2 (fun e he => ?_)]
        · rfl
        · rw [List.mem_singleton] at he
          subst he
          simp only
          omega
      · rw [m1 k (by omega), k5]
    · by_cases e : k = i
      · subst e
        exact .inl (inOp_true.2 ⟨_, List.mem_append_right _ (List.mem_singleton.2 rfl), rfl⟩)
      · rcases hK.op_ k (by omega) hk2 with h1 | ⟨j, j1, j2, j3, j4, j5⟩
        · exact .inl (by rw [inOp_append, h1, Bool.true_or])
        · exact .inr ⟨j, by rw [m1 k e, j1], j2, by omega, j4, by rw [m1 j (by omega), j5]⟩
  · rw [if_neg ho] at hs
    by_cases hc : (l.getD i (0, 0, 0)).1 = 22 ∨ (l.getD i (0, 0, 0)).1 = 24
    · rw [if_pos hc] at hs
      by_cases h0 : op.length = 0
      · rw [if_pos h0] at hs
        cases hs
      · rw [if_neg h0] at hs
        by_cases he : (op.getD (op.length - 1) (0, 0, 0, 0)).2 = l.getD i (0, 0, 0)
        · rw [if_pos he] at hs
          simp only [Option.some.injEq, Prod.mk.injEq] at hs
          obtain ⟨rfl, rfl, rfl⟩ := hs
          have hmem : op.getD (op.length - 1) (0, 0, 0, 0) ∈ op := last_mem (by omega)
          have htl := take_last (l := op) (d := (0, 0, 0, 0)) (by omega)
          obtain ⟨t, t1, t2, t3, t4, t5⟩ := hI.at_ _ hmem
          have hinc := hJ.inc
          generalize op.getD (op.length - 1) (0, 0, 0, 0) = top at *
          rw [t2, Int.toNat_natCast]
          have htin : inOp op t = true := inOp_true.2 ⟨_, hmem, t2⟩
          have hto : isOpen l t = true := isOpen_iff.2 t5
          have htm : t < ((m.set i (-1)).set i ((t : Nat) : Int)).length := by simp; omega
          have mt : ∀ k, k ≠ i → k ≠ t → (((m.set i (-1)).set i ((t : Nat) : Int)).set t (i : Int)).getD k 0 = m.getD k 0 := fun k h1 h2 => by
            rw [getD_set htm, if_neg h2, getD_set (by simpa using him), if_neg h1, m1 k h1]
          have mi : (((m.set i (-1)).set i ((t : Nat) : Int)).set t (i : Int)).getD i 0 = (t : Int) := by
            rw [getD_set htm, if_neg (by omega), getD_set (by simpa using him), if_pos rfl]
          have mtt : (((m.set i (-1)).set i ((t : Nat) : Int)).set t (i : Int)).getD t 0 = (i : Int) := by
            rw [getD_set htm, if_pos rfl]
          have hend : l.getD i (0, 0, 0) = ends (l.getD t (0, 0, 0)) := he.symm.trans t4
          have hlast : ∀ e ∈ op.take (op.length - 1), e.1 < top.1 := fun e he2 => by
            rw [htl] at hinc
            exact (List.pairwise_append.1 hinc).2.2 e he2 top (List.mem_singleton.2 rfl)
          have hnot : inOp (op.take (op.length - 1)) t = false := inOp_false.2 fun e he2 => by
            have := hlast e he2
            omega
          refine ⟨fun j hj hcj => ?_, fun k hk hk2 => ?_⟩
          · by_cases e : j = i
            · subst e
              exact ⟨t, mi, t1, hto, hnot, mtt, hend⟩
            · obtain ⟨k, k1, k2, k3, k4, k5, k6⟩ := hK.cl j (by omega) hcj
              have hkt : k ≠ t := fun e2 => by subst e2; rw [htin] at k4; cases k4
              have hjt : j ≠ t := fun e2 => by
                subst e2
                unfold opAt at hcj
                omega
              refine ⟨k, by rw [mt j e hjt, k1], k2, k3, ?_, by rw [mt k (by omega) hkt, k5], k6⟩
              exact inOp_false.2 fun e2 he2 => inOp_false.1 k4 e2 (List.mem_of_mem_take he2)
          · have hki : k ≠ i := fun e => by
              subst e
              rw [isOpen_iff] at hk2
              unfold opAt at hk2
              omega
            by_cases e : k = t
            · subst e
              exact .inr ⟨i, mtt, t1, by omega, hend, mi⟩
            · rcases hK.op_ k (by omega) hk2 with h1 | ⟨j, j1, j2, j3, j4, j5⟩
              · rw [inOp_true] at h1
                obtain ⟨e1, e2, e3⟩ := h1
                rw [htl] at e2
                rcases List.mem_append.1 e2 with h4 | h4
                · exact .inl (inOp_true.2 ⟨e1, h4, e3⟩)
                · rw [List.mem_singleton] at h4
                  subst h4
                  omega
              · have hjt : j ≠ t := fun e2 => by
                  subst e2
                  rw [close_not j4] at hto
                  cases hto
                exact .inr ⟨j, by rw [mt k hki e, j1], j2, by omega, j4, by rw [mt j (by omega) hjt, j5]⟩
        · rw [if_neg he] at hs
          cases hs
    · rw [if_neg hc] at hs
      simp only [Option.some.injEq, Prod.mk.injEq] at hs
      obtain ⟨rfl, rfl, rfl⟩ := hs
      refine ⟨fun j hj hcj => ?_, fun k hk hk2 => ?_⟩
      · have : j ≠ i := fun e => by subst e; exact hc hcj
        obtain ⟨k, k1, k2, k3, k4, k5, k6⟩ := hK.cl j (by omega) hcj
        exact ⟨k, by rw [m1 j this, k1], k2, k3, k4, by rw [m1 k (by omega), k5], k6⟩
      · have : k ≠ i := fun e => by subst e; exact ho (isOpen_iff.1 hk2)
        rcases hK.op_ k (by omega) hk2 with h1 | ⟨j, j1, j2, j3, j4, j5⟩
        · exact .inl h1
        · exact .inr ⟨j, by rw [m1 k this, j1], j2, by omega, j4, by rw [m1 j (by omega), j5]⟩
theorem scanK_end {l : List Ins} : ∀ (r i : Nat) {m h m' h' : List Int} {op op' : List (Int × Ins)}, ScanI l i m h op → ScanJ l i m h op → ScanK l i m op → r + i = l.length → scanS l r i m h op = some (m', h', op') → ScanK l l.length m' op'
  | 0, i, m, h, m', h', op, op', hI, hJ, hK, hr, hs => by
    simp only [scanS, Option.some.injEq, Prod.mk.injEq] at hs
    obtain ⟨rfl, rfl, rfl⟩ := hs
    have : i = l.length := by omega
    subst this
    exact hK
  | r + 1, i, m, h, m', h', op, op', hI, hJ, hK, hr, hs => by
    simp only [scanS] at hs
    cases hstep : scanStep (l.getD i (0, 0, 0)) i m h op with
    | none => rw [hstep] at hs; cases hs
    | some y =>
      obtain ⟨m1, h1, op1⟩ := y
      rw [hstep] at hs
      exact scanK_end r (i + 1) (hI.step (by omega) hstep) (hJ.step hI (by omega) hstep) (hK.step hI hJ (by omega) hstep) (by omega) hs
structure Closed (l : List Ins) (m : List Int) : Prop where
  cl : ∀ j, j < l.length → opAt l j = 22 ∨ opAt l j = 24 → ∃ k : Nat, m.getD j 0 = (k : Int) ∧ k < j ∧ isOpen l k = true ∧ m.getD k 0 = (j : Int) ∧ l.getD j (0, 0, 0) = ends (l.getD k (0, 0, 0))
  op_ : ∀ k, k < l.length → isOpen l k = true → ∃ j : Nat, m.getD k 0 = (j : Int) ∧ k < j ∧ j < l.length ∧ l.getD j (0, 0, 0) = ends (l.getD k (0, 0, 0)) ∧ m.getD j 0 = (k : Int)
theorem scanI_closed {l : List Ins} (h : (scanI l).2.2 = 0) : Closed l (scanI l).1 := by
  unfold scanI at h ⊢
  split at h
  · rename_i hr
    rw [if_pos hr]
    split at h
    · rename_i m' h' op hs
      split at h
      · cases h
      · rename_i h0
        simp only [if_neg h0]
        have hK := scanK_end l.length 0 (ScanI.start l) (ScanJ.start l) ⟨fun j hj => by omega, fun k hk => by omega⟩ (by omega) hs
        have : op = [] := List.eq_nil_of_length_eq_zero (by omega)
        subst this
        refine ⟨fun j hj hc => ?_, fun k hk ho => ?_⟩
        · obtain ⟨k, k1, k2, k3, k4, k5, k6⟩ := hK.cl j hj hc
          exact ⟨k, k1, k2, k3, k5, k6⟩
        · rcases hK.op_ k hk ho with h1 | h1
          · simp [inOp] at h1
          · exact h1
    · cases h
  · cases h
end Go.Proofs.Dk

/- Plain: the stacks of a row, by the program. -/
namespace Go.Proofs.Dk
open Go
set_option maxRecDepth 100000
set_option linter.unusedVariables false
set_option linter.unusedSimpArgs false
def neB (a b : ByteArray) : Bool := !(a.toList == b.toList)
def afterI (x : Ins) (s : ByteArray) : ByteArray × Int :=
  if s.size < (takesI x.1).size then (ByteArray.mk #[], 9)
  else if fitsB (s.extract (s.size - (takesI x.1).size) s.size) (takesI x.1) = true then
    (if (s.extract 0 (s.size - (takesI x.1).size) ++ givesI x.1 x.2.1 (s.extract (s.size - (takesI x.1).size) s.size)).size > 16 then (ByteArray.mk #[], 9)
    else (s.extract 0 (s.size - (takesI x.1).size) ++ givesI x.1 x.2.1 (s.extract (s.size - (takesI x.1).size) s.size), 0))
  else (ByteArray.mk #[], 10)
theorem after_size (x : Ins) (s : ByteArray) : (afterI x s).1.size ≤ 16 := by
  unfold afterI
  split
  · exact Nat.zero_le _
  · split
    · split
      · exact Nat.zero_le _
      · simp only; omega
    · exact Nat.zero_le _
theorem gives_size {o A : Int} {t : ByteArray} (h : t.size ≤ 2) : (givesI o A t).size ≤ 4 := by
  unfold givesI
  split
  · decide
  · split
    · rw [ByteArray.size_append]; omega
    · split
      · rw [ByteArray.size_append, ByteArray.size_extract, ByteArray.size_extract]; omega
      · split
        · split <;> decide
        · split <;> decide
theorem cut_ix {a b : Nat} (h : b ≤ a) (ha : a < 1000000) : IntKind.wrap .i64 ((a : Int) - (b : Int)) = ((a - b : Nat) : Int) := by
  rw [wrap_id (by omega) (by omega)]
  omega
theorem after_is (n : Nat) (hn : 3 < n) (hn2 : n < 1000000) {o A B : Int} (h : rightI (o, A, B) = true) {s : ByteArray} (hs : s.size ≤ 16) : types_after.f n (o, A, B) s = some (afterI (o, A, B) s) := by
  have ht := takes_size (right_op h)
  unfold types_after.f afterI
  simp only [takes_is n h, Option.bind_some]
  by_cases hlt : s.size < (takesI o).size
  · rw [if_pos hlt, if_pos]
    rw [wrap_id (by omega) (by omega)]
    simp; omega
  · rw [if_neg hlt, cut_ix (by omega) (by omega), if_neg (by simp), if_pos (by simp), Int.toNat_natCast, fits_is n _ _ (by omega) hn2, Option.bind_some]
    rcases Bool.eq_false_or_eq_true (fitsB (s.extract (s.size - (takesI o).size) s.size) (takesI o)) with hf | hf
    · rw [hf, if_neg (by decide), if_pos rfl, if_pos (by simp), gives_is n hn hn2 h hf, Option.bind_some]
      have hg := gives_size (o := o) (A := A) (t := s.extract (s.size - (takesI o).size) s.size) (by rw [ByteArray.size_extract]; omega)
      have hx : (s.extract 0 (s.size - (takesI o).size)).size ≤ 16 := by rw [ByteArray.size_extract]; omega
      rw [if_pos (decide_eq_true (by omega))]
      generalize s.extract 0 (s.size - (takesI o).size) ++ givesI o A (s.extract (s.size - (takesI o).size) s.size) = out
      by_cases hb : out.size > 16
      · rw [if_pos hb, if_pos (show decide ((out.size : Int) > 16) = true from decide_eq_true (by omega)), if_pos (by simp)]
      · rw [if_neg hb, if_neg (show ¬ decide ((out.size : Int) > 16) = true by simp only [decide_eq_true_eq]; omega), if_pos (by simp)]
    · rw [hf, if_pos (by decide), if_neg (by decide)]
abbrev Flow := List ByteArray × List Bool × List Bool
def handI (q : Nat) (t : ByteArray) (f : Flow) : Flow := (f.1.set q t, f.2.1.set q true, if (f.2.1.getD q false && neB (f.1.getD q ByteArray.empty) t) = true then f.2.2.set q true else f.2.2)
def nextsI (l : List Ins) (i : Nat) : List Nat := if opAt l i = 19 then [jumpTo l i] else if opAt l i = 20 then [i + 1, jumpTo l i] else if opAt l i = 25 then [] else [i + 1]
def flowStep (l : List Ins) (m : List Int) (i : Nat) (f : Flow) : Int ⊕ Flow :=
  if f.2.1.getD i false = false then .inl 8
  else if f.2.2.getD i false = true then .inl 10
  else if opAt l i = 22 ∧ neB (f.1.getD (m.getD i 0).toNat ByteArray.empty) (f.1.getD i ByteArray.empty) = true then .inl 10
  else if (afterI (l.getD i (0, 0, 0)) (f.1.getD i ByteArray.empty)).2 ≠ 0 then .inl (afterI (l.getD i (0, 0, 0)) (f.1.getD i ByteArray.empty)).2
  else .inr ((nextsI l i).foldl (fun g k => handI k (afterI (l.getD i (0, 0, 0)) (f.1.getD i ByteArray.empty)).1 g) f)
structure FlowI (l : List Ins) (f : Flow) : Prop where
  a : f.1.length = l.length
  b : f.2.1.length = l.length
  c : f.2.2.length = l.length
  s : ∀ k, (f.1.getD k ByteArray.empty).size ≤ 16
theorem handI_ok {l : List Ins} {f : Flow} (h : FlowI l f) (q : Nat) {t : ByteArray} (ht : t.size ≤ 16) : FlowI l (handI q t f) := by
  refine ⟨by simp [handI, h.a], by simp [handI, h.b], ?_, fun k => ?_⟩
  · unfold handI
    simp only
    split
    · simp [h.c]
    · exact h.c
  · unfold handI
    simp only
    rcases Nat.lt_or_ge q f.1.length with hlt | hge
    · rw [getD_set hlt]
      split
      · exact ht
      · exact h.s k
    · rw [List.set_eq_of_length_le hge]
      exact h.s k
theorem stacks_j0 (n : Nat) {l : List Ins} {f : Flow} (h : FlowI l f) {q : Nat} (hto : q < l.length) (t : ByteArray) :
    types_Stacks.j0 n (q : Int) t f.1 f.2.1 f.2.2 = some ((q : Int), t, f.1, f.2.1, (handI q t f).2.2) := by
  obtain ⟨st, so, cl⟩ := f
  have ha : st.length = l.length := h.a
  have hb : so.length = l.length := h.b
  have hc : cl.length = l.length := h.c
  unfold types_Stacks.j0 handI neB
  simp only [Int.toNat_natCast]
  rw [if_pos (in_ix (by omega))]
  rcases Bool.eq_false_or_eq_true (so.getD q false) with h1 | h1
  · rw [h1, if_pos rfl, if_pos (in_ix (by omega)), Bool.true_and]
    rcases Bool.eq_false_or_eq_true (!((st.getD q ByteArray.empty).toList == t.toList)) with h2 | h2
    · rw [h2, if_pos rfl, if_pos (in_ix (by omega)), if_pos rfl]
    · rw [h2, if_neg (by decide), if_neg (by decide)]
  · rw [h1, if_neg (by decide), Bool.false_and, if_neg (by decide)]
theorem stacks_hand (n : Nat) {l : List Ins} {f : Flow} (h : FlowI l f) {q : Nat} (hto : q < l.length) (t : ByteArray) {R : Type} (K : Int → ByteArray → List ByteArray → List Bool → List Bool → Option R) :
    ((types_Stacks.j0 n (q : Int) t f.1 f.2.1 f.2.2).bind fun y => (if (decide (0 ≤ y.1) && decide (y.1 < (y.2.2.2.1.length : Int))) then (if (decide (0 ≤ y.1) && decide (y.1 < (y.2.2.1.length : Int))) then K y.1 y.2.1 (y.2.2.1.set y.1.toNat y.2.1) (y.2.2.2.1.set y.1.toNat true) y.2.2.2.2 else none) else none)) = K (q : Int) t (handI q t f).1 (handI q t f).2.1 (handI q t f).2.2 := by
  rw [stacks_j0 n h hto t, Option.bind_some]
  simp only
  rw [if_pos (in_ix (by rw [h.b]; exact hto)), if_pos (in_ix (by rw [h.a]; exact hto)), Int.toNat_natCast]
  rfl
end Go.Proofs.Dk

/- Plain: the stacks of a row, by the program, on. -/
namespace Go.Proofs.Dk
open Go
set_option maxRecDepth 100000
set_option linter.unusedVariables false
set_option linter.unusedSimpArgs false
structure Fine (l : List Ins) (m h : List Int) : Prop where
  nest : Nest l m h
  closed : Closed l m
  ends : ∀ j, j < l.length → endQ l j = true
  jumps : ∀ j, j < l.length → jumpQ l h j = true
theorem whole_fine {l : List Ins} (h : wholeI l = 0) : Fine l (scanI l).1 (scanI l).2.1 := by
  have hs := whole_scan h
  unfold wholeI at h
  rw [if_neg (by simpa using hs)] at h
  split at h
  · rename_i h1
    split at h
    · rename_i h2
      exact ⟨scanI_nest hs, scanI_closed hs, fun j hj => allF_iff.1 h1 j (Nat.zero_le _) (by omega), fun j hj => allF_iff.1 h2 j (Nat.zero_le _) (by omega)⟩
    · cases h
  · cases h
theorem Fine.len {l : List Ins} {m h : List Int} (hF : Fine l m h) : 0 < l.length ∧ l.length ≤ 200 := ⟨(rowI_len hF.nest.row).1, (rowI_len hF.nest.row).2.1⟩
theorem Fine.right {l : List Ins} {m h : List Int} (hF : Fine l m h) {i : Nat} (hi : i < l.length) : rightI (l.getD i (0, 0, 0)) = true := (rowI_len hF.nest.row).2.2 i hi
theorem Fine.succ {l : List Ins} {m h : List Int} (hF : Fine l m h) {i : Nat} (hi : i < l.length) (h : opAt l i ≠ 25) : i + 1 < l.length := by
  have h1 := hF.ends i hi
  unfold endQ at h1
  have h2 : ((l.getD i (0, 0, 0)).1 == 25) = false := by rw [beq_eq_false_iff_ne]; exact h
  rw [h2] at h1
  have h3 : ((i : Int) == ((l.length - 1 : Nat) : Int)) = false := by
    cases h4 : ((i : Int) == ((l.length - 1 : Nat) : Int))
    · rfl
    · rw [h4] at h1; cases h1
  rw [beq_eq_false_iff_ne] at h3
  omega
theorem Fine.last {l : List Ins} {m h : List Int} (hF : Fine l m h) : opAt l (l.length - 1) = 25 := by
  have h1 := hF.ends (l.length - 1) (by have := hF.len; omega)
  unfold endQ at h1
  have h3 : (((l.length - 1 : Nat) : Int) == ((l.length - 1 : Nat) : Int)) = true := by simp
  rw [h3] at h1
  cases h4 : ((l.getD (l.length - 1) (0, 0, 0)).1 == 25)
  · rw [h4] at h1; cases h1
  · exact eq_of_beq h4
theorem Fine.jump {l : List Ins} {m h : List Int} (hF : Fine l m h) {i : Nat} (hi : i < l.length) (hj : opAt l i = 19 ∨ opAt l i = 20) : jumpTo l i < l.length ∧ homeAt l m (jumpTo l i) = homeAt l m i := by
  have h1 := hF.jumps i hi
  unfold jumpQ at h1
  rw [if_pos hj] at h1
  rw [Bool.and_eq_true, decide_eq_true_eq, beq_iff_eq] at h1
  refine ⟨h1.1, ?_⟩
  rw [← hF.nest.home i hi, ← hF.nest.home _ h1.1]
  exact h1.2
theorem Fine.next {l : List Ins} {m h : List Int} (hF : Fine l m h) {i : Nat} (hi : i < l.length) : ∀ k ∈ nextsI l i, k < l.length := by
  intro k hk
  unfold nextsI at hk
  split at hk
  · rename_i h1
    rw [List.mem_singleton] at hk
    subst hk
    exact (hF.jump hi (.inl h1)).1
  · split at hk
    · rename_i h1 h2
      rw [List.mem_cons, List.mem_singleton] at hk
      rcases hk with rfl | rfl
      · exact hF.succ hi (by omega)
      · exact (hF.jump hi (.inr h2)).1
    · split at hk
      · cases hk
      · rename_i h3
        rw [List.mem_singleton] at hk
        subst hk
        exact hF.succ hi h3
theorem foldl_ok {l : List Ins} {t : ByteArray} (ht : t.size ≤ 16) : ∀ (ks : List Nat) {f : Flow}, FlowI l f → FlowI l (ks.foldl (fun f k => handI k t f) f)
  | [], f, h => h
  | k :: ks, f, h => foldl_ok ht ks (handI_ok h k ht)
theorem flowStep_ok {l : List Ins} {m : List Int} {i : Nat} {f f' : Flow} (h : FlowI l f) (hs : flowStep l m i f = .inr f') : FlowI l f' := by
  unfold flowStep at hs
  split at hs
  · cases hs
  · split at hs
    · cases hs
    · split at hs
      · cases hs
      · split at hs
        · cases hs
        · cases hs
          exact foldl_ok (after_size _ _) _ h
theorem stacks_step (n : Nat) (hn : 3 < n) (hn2 : n < 1000000) {l : List Ins} {m h : List Int} (hF : Fine l m h) (F : ((List Int) × (List (Int × (Int × Int))) × Int × Int × (List ByteArray) × (List Bool) × (List Bool)) → Option (((((List ByteArray) × Int × Unit) × (((List ByteArray) × (List Bool) × (List Bool) × Unit) × Unit)) ⊕ (Unit × (((List ByteArray) × (List Bool) × (List Bool) × Unit) × Unit))))) {f : Flow} (hf : FlowI l f) {i : Nat} (hi : i < l.length) :
    types_Stacks.b3 n F m l (l.length : Int) (i : Int) f.1 f.2.1 f.2.2 = match flowStep l m i f with
      | .inl e => some (.inl (([], e, ()), ((f.1, f.2.1, f.2.2, ()), ())))
      | .inr f' => F (m, l, (l.length : Int), ((i + 1 : Nat) : Int), f'.1, f'.2.1, f'.2.2) := by
  obtain ⟨l1, l2⟩ := hF.len
  have ha := hf.a
  have hb := hf.b
  have hc := hf.c
  have hr := hF.right hi
  have hm : opAt l i = 22 → ∃ j : Nat, m.getD i 0 = (j : Int) ∧ j < l.length := fun h22 => by
    obtain ⟨k, k1, k2, _⟩ := hF.closed.cl i hi (.inl h22)
    exact ⟨k, k1, by omega⟩
  have hnx := hF.next hi
  have hjx := fun hj => (hF.jump hi hj).1
  have hjw := fun hj => jump_ix (by omega) hi hr hj
  unfold types_Stacks.b3 types_Stacks.j1 flowStep
  simp only [Int.toNat_natCast]
  rw [if_pos (decide_eq_true (by omega)), if_pos (in_ix hi), if_pos (in_ix (by omega)), if_pos (in_ix (by omega)), next_ix (by omega)]
  rcases Bool.eq_false_or_eq_true (f.2.1.getD i false) with h1 | h1
  · rw [h1, if_neg (show ¬ (!true) = true by decide), if_neg (show ¬ true = false by decide), if_pos (in_ix (by omega))]
    rcases Bool.eq_false_or_eq_true (f.2.2.getD i false) with h2 | h2
    · rw [h2, if_pos rfl, if_pos rfl]
      rfl
    · rw [h2, if_neg (show ¬ false = true by decide), if_neg (show ¬ false = true by decide)]
      have key : (afterI (l.getD i (0, 0, 0)) (f.1.getD i ByteArray.empty)).1.size ≤ 16 := after_size _ _
      have tail : ((types_after.f n ((l.getD i (0, 0, 0)).1, ((l.getD i (0, 0, 0)).2.1, (l.getD i (0, 0, 0)).2.2)) (f.1.getD i ByteArray.empty)).bind fun y19 => (if (y19.2 != 0) then (if (y19.2 != 0) then (some (.inl (([], y19.2, ()), ((f.1, f.2.1, f.2.2, ()), ())))) else (F (m, l, (l.length : Int), ((i + 1 : Nat) : Int), f.1, f.2.1, f.2.2))) else ((types_Stacks.j2 n (i : Int) y19.1 f.1 f.2.1 f.2.2 (l.getD i (0, 0, 0)).1 (l.getD i (0, 0, 0)).2.1 (l.getD i (0, 0, 0)).2.2).bind fun y20 => (if (y20.2.2.2.2.2.1 == 19) then ((types_Stacks.j0 n (IntKind.wrap .i64 ((IntKind.wrap .i64 (y20.1 + 1)) + y20.2.2.2.2.2.2.1)) y20.2.1 y20.2.2.1 y20.2.2.2.1 y20.2.2.2.2.1).bind fun y21 => (if (decide (0 ≤ y21.1) && decide (y21.1 < (y21.2.2.2.1.length : Int))) then (if (decide (0 ≤ y21.1) && decide (y21.1 < (y21.2.2.1.length : Int))) then (F (m, l, (l.length : Int), ((i + 1 : Nat) : Int), (y21.2.2.1.set y21.1.toNat y21.2.1), (y21.2.2.2.1.set y21.1.toNat true), y21.2.2.2.2)) else none) else none)) else (if (y20.2.2.2.2.2.1 == 20) then ((types_Stacks.j0 n (IntKind.wrap .i64 ((IntKind.wrap .i64 (y20.1 + 1)) + y20.2.2.2.2.2.2.1)) y20.2.1 y20.2.2.1 y20.2.2.2.1 y20.2.2.2.2.1).bind fun y22 => (if (decide (0 ≤ y22.1) && decide (y22.1 < (y22.2.2.2.1.length : Int))) then (if (decide (0 ≤ y22.1) && decide (y22.1 < (y22.2.2.1.length : Int))) then (F (m, l, (l.length : Int), ((i + 1 : Nat) : Int), (y22.2.2.1.set y22.1.toNat y22.2.1), (y22.2.2.2.1.set y22.1.toNat true), y22.2.2.2.2)) else none) else none)) else (F (m, l, (l.length : Int), ((i + 1 : Nat) : Int), y20.2.2.1, y20.2.2.2.1, y20.2.2.2.2.1))))))) = match (if (afterI (l.getD i (0, 0, 0)) (f.1.getD i ByteArray.empty)).2 ≠ 0 then Sum.inl (afterI (l.getD i (0, 0, 0)) (f.1.getD i ByteArray.empty)).2
          else Sum.inr ((nextsI l i).foldl (fun g k => handI k (afterI (l.getD i (0, 0, 0)) (f.1.getD i ByteArray.empty)).1 g) f) : Int ⊕ Flow) with
        | .inl e => some (.inl (([], e, ()), ((f.1, f.2.1, f.2.2, ()), ())))
        | .inr f' => F (m, l, (l.length : Int), ((i + 1 : Nat) : Int), f'.1, f'.2.1, f'.2.2) := by
        have hA := after_is n hn hn2 (o := (l.getD i (0, 0, 0)).1) (A := (l.getD i (0, 0, 0)).2.1) (B := (l.getD i (0, 0, 0)).2.2) hr (hf.s i)
        rw [hA, Option.bind_some]
        have e0 : ((l.getD i (0, 0, 0)).1, (l.getD i (0, 0, 0)).2.1, (l.getD i (0, 0, 0)).2.2) = l.getD i (0, 0, 0) := rfl
        rw [e0]
        generalize afterI (l.getD i (0, 0, 0)) (f.1.getD i ByteArray.empty) = te at key ⊢
        obtain ⟨t, e⟩ := te
        simp only
        by_cases he : e = 0
        · subst he
          rw [if_neg (by decide), if_neg (by decide)]
          unfold types_Stacks.j2
          rw [next_ix (by omega)]
          by_cases h19 : (l.getD i (0, 0, 0)).1 = 19
          · have hj := hjw (.inl h19)
            have nx : nextsI l i = [jumpTo l i] := by unfold nextsI; rw [if_pos h19]
            rw [nx, h19, if_neg (by decide), Option.bind_some]
            simp only
            rw [next_ix (by omega), hj, if_pos (show ((19 : Int) == 19) = true from rfl)]
            exact stacks_hand n hf (hjx (.inl h19)) t fun a b c d e => F (m, l, (l.length : Int), ((i + 1 : Nat) : Int), c, d, e)
          · rw [if_pos (bne_iff_ne.2 h19)]
            have b19 : ¬ ((l.getD i (0, 0, 0)).1 == 19) = true := by simpa only [beq_iff_eq] using h19
            by_cases h25 : (l.getD i (0, 0, 0)).1 = 25
            · have nx : nextsI l i = [] := by unfold nextsI opAt; rw [h25]; rfl
              rw [nx, h25, if_neg (by decide), Option.bind_some]
              rfl
            · have hs1 := hF.succ hi h25
              rw [if_pos (bne_iff_ne.2 h25), stacks_hand n hf hs1 t fun a b c d e => some ((i : Int), t, c, d, e, (l.getD i (0, 0, 0)).1, (l.getD i (0, 0, 0)).2.1, (l.getD i (0, 0, 0)).2.2), Option.bind_some]
              simp only
              rw [next_ix (by omega), if_neg b19]
              have hf1 := handI_ok hf (i + 1) key
              by_cases h20 : (l.getD i (0, 0, 0)).1 = 20
              · have nx : nextsI l i = [i + 1, jumpTo l i] := by unfold nextsI; rw [if_neg h19, if_pos h20]
                rw [nx, hjw (.inr h20), h20, if_pos (show ((20 : Int) == 20) = true from rfl)]
                exact stacks_hand n hf1 (hjx (.inr h20)) t fun a b c d e => F (m, l, (l.length : Int), ((i + 1 : Nat) : Int), c, d, e)
              · have nx : nextsI l i = [i + 1] := by unfold nextsI; rw [if_neg h19, if_neg h20, if_neg h25]
                rw [nx, if_neg (show ¬ ((l.getD i (0, 0, 0)).1 == 20) = true by simpa only [beq_iff_eq] using h20)]
                rfl
        · rw [if_pos (bne_iff_ne.2 he), if_pos (bne_iff_ne.2 he), if_pos he]
      by_cases h22 : (l.getD i (0, 0, 0)).1 = 22
      · obtain ⟨j, j1, j2⟩ := hm h22
        rw [if_pos (show ((l.getD i (0, 0, 0)).1 == 22) = true by simpa only [beq_iff_eq] using h22), if_pos (in_ix (by rw [hF.nest.hm]; exact hi))]
        simp only [j1, Int.toNat_natCast]
        rw [if_pos (in_ix (show j < f.1.length by omega))]
        rcases Bool.eq_false_or_eq_true (neB (f.1.getD j ByteArray.empty) (f.1.getD i ByteArray.empty)) with h3 | h3
        · rw [if_pos (show opAt l i = 22 ∧ neB (f.1.getD j ByteArray.empty) (f.1.getD i ByteArray.empty) = true from ⟨h22, h3⟩)]
          unfold neB at h3
          rw [h3, if_pos rfl]
          rfl
        · rw [if_neg (show ¬ (opAt l i = 22 ∧ neB (f.1.getD j ByteArray.empty) (f.1.getD i ByteArray.empty) = true) from fun h => by rw [h3] at h; cases h.2)]
          unfold neB at h3
          rw [h3, if_neg (by decide)]
          exact tail
      · rw [if_neg (show ¬ ((l.getD i (0, 0, 0)).1 == 22) = true by simpa only [beq_iff_eq] using h22), if_neg (fun h => h22 h.1)]
        exact tail
  · rw [h1, if_pos (show (!false) = true from rfl), if_pos rfl]
    rfl
def stacksS (l : List Ins) (m : List Int) : Nat → Nat → Flow → Int ⊕ Flow
  | 0, _, f => .inr f
  | r + 1, i, f => match flowStep l m i f with
    | .inl e => .inl e
    | .inr f => stacksS l m r (i + 1) f
theorem stacks_loop (n : Nat) (hn : 3 < n) (hn2 : n < 1000000) {l : List Ins} {m h : List Int} (hF : Fine l m h) : ∀ (f i : Nat) {s : Flow}, FlowI l s → i ≤ l.length → l.length < f + i → ∃ a b c d e,
    it (fun F (x : (List Int) × (List (Int × (Int × Int))) × Int × Int × (List ByteArray) × (List Bool) × (List Bool)) => types_Stacks.b3 n F x.1 x.2.1 x.2.2.1 x.2.2.2.1 x.2.2.2.2.1 x.2.2.2.2.2.1 x.2.2.2.2.2.2) f (m, l, (l.length : Int), (i : Int), s.1, s.2.1, s.2.2) = match stacksS l m (l.length - i) i s with
      | .inl z => some (.inl (([], z, ()), ((a, b, c, ()), ())))
      | .inr s' => some (.inr ((), ((s'.1, d, e, ()), ())))
  | 0, i, s, hs, hi, hf => by omega
  | f + 1, i, s, hs, hi, hf => by
    have ih := fun {s : Flow} => stacks_loop n hn hn2 hF f (i + 1) (s := s)
    show ∃ a b c d e, types_Stacks.b3 n (it _ f) m l (l.length : Int) (i : Int) s.1 s.2.1 s.2.2 = _
    generalize it (fun F (x : (List Int) × (List (Int × (Int × Int))) × Int × Int × (List ByteArray) × (List Bool) × (List Bool)) => types_Stacks.b3 n F x.1 x.2.1 x.2.2.1 x.2.2.2.1 x.2.2.2.2.1 x.2.2.2.2.2.1 x.2.2.2.2.2.2) f = F at ih ⊢
    rcases Nat.lt_or_ge i l.length with hlt | hge
    · rw [stacks_step n hn hn2 hF F hs hlt, show l.length - i = (l.length - (i + 1)) + 1 by omega]
      simp only [stacksS]
      cases hq : flowStep l m i s with
      | inl e => exact ⟨s.1, s.2.1, s.2.2, [], [], rfl⟩
      | inr s' => exact ih (flowStep_ok hs hq) (by omega) (by omega)
    · have : i = l.length := by omega
      subst this
      unfold types_Stacks.b3
      rw [if_neg (by simp), Nat.sub_self]
      exact ⟨[], [], [], s.2.1, s.2.2, rfl⟩
def flow0 (l : List Ins) : Flow := (List.replicate l.length ByteArray.empty, (List.replicate l.length false).set 0 true, List.replicate l.length false)
theorem flow0_ok (l : List Ins) : FlowI l (flow0 l) := ⟨by simp [flow0], by simp [flow0], by simp [flow0], fun k => by
  unfold flow0
  simp only [List.getD_eq_getElem?_getD, List.getElem?_replicate]
  split <;> exact Nat.zero_le _⟩
noncomputable def stacksI (l : List Ins) : Int := if wholeI l ≠ 0 then wholeI l else match stacksS l (scanI l).1 l.length 0 (flow0 l) with
  | .inl e => e
  | .inr _ => 0
theorem match_is (n : Nat) (l : List Ins) (hl : l.length < n) (hn : n < 1000000) : nest_Match.f n l = some ((scanI l).1, (scanI l).2.2) := by
  unfold nest_Match.f
  rw [scan_is n l hl hn]
  rfl
theorem stacks_is (n : Nat) (l : List Ins) (hl : l.length < n) (hn3 : 3 < n) (hn : n < 1000000) : ∃ o, types_Stacks.f n l = some (o, stacksI l) := by
  unfold types_Stacks.f stacksI
  rw [whole_is n l hl hn, Option.bind_some]
  by_cases hw : wholeI l = 0
  · have hF := whole_fine hw
    have hI := flow0_ok l
    obtain ⟨l1, l2⟩ := hF.len
    obtain ⟨a, b, c, d, e, h⟩ := stacks_loop n hn3 hn hF n 0 hI (Nat.zero_le _) (by omega)
    have c1 : (decide (0 ≤ (l.length : Int)) && ((l.length : Int) == (l.length : Int)) && decide ((l.length : Int) * (16 : Int) ≤ 140737488355328) && decide (1 ≤ 16)) = true := by simp; omega
    have c2 : (decide (0 ≤ (l.length : Int)) && ((l.length : Int) == (l.length : Int)) && decide ((l.length : Int) * (1 : Int) ≤ 140737488355328) && decide (1 ≤ 1)) = true := by simp; omega
    rw [if_neg (fun h => (bne_iff_ne.1 h) hw), match_is n l hl hn, Option.bind_some, if_pos c1, if_pos c2, if_pos c2, if_neg (show ¬ (wholeI l ≠ 0) from fun h => h hw), Int.toNat_natCast]
    have hX : FlowI l (List.replicate l.length ByteArray.empty, List.replicate l.length false, List.replicate l.length false) := ⟨by simp, by simp, by simp, hI.s⟩
    have e0 : handI 0 (ByteArray.mk #[]) (List.replicate l.length ByteArray.empty, List.replicate l.length false, List.replicate l.length false) = flow0 l := by
      unfold handI flow0
      have e1 : (ByteArray.mk #[]) = ByteArray.empty := rfl
      have e2 : (List.replicate l.length false).getD 0 false = false := by
        simp only [List.getD_eq_getElem?_getD, List.getElem?_replicate]
        split <;> rfl
      simp only [e1, List.set_replicate_self, e2]
      rfl
    have h0 := stacks_hand n hX l1 (ByteArray.mk #[]) fun a b c d e => (types_Stacks.b3.l n ((scanI l).1, l, (l.length : Int), 0, c, d, e)).bind fun y4 => ((Sum.elim (fun (z5 : (((List ByteArray) × Int × Unit) × (((List ByteArray) × (List Bool) × (List Bool) × Unit) × Unit))) => (some (z5.1.1, z5.1.2.1))) (fun (z6 : (Unit × (((List ByteArray) × (List Bool) × (List Bool) × Unit) × Unit))) => (some (z6.2.1.1, (0 : Int))))) y4)
    rw [e0] at h0
    unfold types_Stacks.b3.l at h0 ⊢
    rw [Nat.sub_zero] at h
    refine Exists.imp (fun o ho => h0.trans ho) ?_
    rw [show ((0 : Nat) : Int) = 0 from rfl] at h
    rw [h]
    cases hq : stacksS l (scanI l).1 l.length 0 (flow0 l) with
    | inl z => exact ⟨[], rfl⟩
    | inr s' => exact ⟨s'.1, rfl⟩
  · rw [if_pos (by simp only [bne_iff_ne, ne_eq]; exact hw), if_pos hw]
    exact ⟨_, rfl⟩
end Go.Proofs.Dk

/- Plain: the stacks of a row, as the document says. -/
namespace Go.Proofs.Dk
open Go
set_option maxRecDepth 100000
set_option linter.unusedVariables false
set_option linter.unusedSimpArgs false
theorem set_same {c : List Bool} {q : Nat} {b : Bool} (h : c.getD q false = b) (hq : q < c.length) : c.set q b = c := by
  rw [List.getD_eq_getElem?_getD, List.getElem?_eq_getElem hq, Option.getD_some] at h
  subst h
  exact List.set_getElem_self hq
end Go.Proofs.Dk

/- Plain: the stacks that a row has, in the end. -/
namespace Go.Proofs.Dk
open Go
set_option maxRecDepth 100000
set_option linter.unusedVariables false
set_option linter.unusedSimpArgs false
theorem toList_loop (y : ByteArray) : ∀ (k i : Nat) (r : List UInt8), y.size - i = k → ByteArray.toList.loop y i r = r.reverse ++ y.data.toList.drop i
  | 0, i, r, h => by
    unfold ByteArray.toList.loop
    rw [if_neg (by omega), List.drop_eq_nil_of_le (by rw [Array.length_toList]; exact Nat.sub_eq_zero_iff_le.1 h), List.append_nil]
  | k + 1, i, r, h => by
    unfold ByteArray.toList.loop
    have hi : i < y.size := by omega
    rw [if_pos hi, toList_loop y k (i + 1) _ (by omega), List.reverse_cons, List.append_assoc]
    have hi2 : i < y.data.toList.length := by rw [Array.length_toList]; exact hi
    rw [List.drop_eq_getElem_cons hi2]
    congr 1
    have : y.get! i = y.data.toList[i] := by
      show y.data[i]! = _
      rw [getElem!_pos y.data i hi, Array.getElem_toList]
    rw [this]
    rfl
theorem toList_data (y : ByteArray) : y.toList = y.data.toList := by
  unfold ByteArray.toList
  rw [toList_loop y _ 0 [] rfl]
  rfl
theorem toList_inj {a b : ByteArray} (h : a.toList = b.toList) : a = b := by
  rw [toList_data, toList_data] at h
  cases a; cases b
  congr 1
  exact Array.toList_inj.1 h
theorem neB_false {a b : ByteArray} (h : neB a b = false) : a = b := by
  unfold neB at h
  apply toList_inj
  cases h2 : (a.toList == b.toList)
  · rw [h2] at h; cases h
  · exact eq_of_beq h2
theorem jumpTo_gt (l : List Ins) (i : Nat) : i < jumpTo l i := by unfold jumpTo; omega
theorem nexts_gt {l : List Ins} {i q : Nat} (h : q ∈ nextsI l i) : i < q := by
  have := jumpTo_gt l i
  unfold nextsI at h
  split at h
  · rw [List.mem_singleton] at h; omega
  · split at h
    · rw [List.mem_cons, List.mem_singleton] at h; omega
    · split at h
      · cases h
      · rw [List.mem_singleton] at h; omega
abbrev stF (f : Flow) (k : Nat) : ByteArray := f.1.getD k ByteArray.empty
abbrev soF (f : Flow) (k : Nat) : Bool := f.2.1.getD k false
abbrev clF (f : Flow) (k : Nat) : Bool := f.2.2.getD k false
theorem hand_st {l : List Ins} {f : Flow} (hI : FlowI l f) {q : Nat} (hq : q < l.length) (t : ByteArray) (k : Nat) : stF (handI q t f) k = if k = q then t else stF f k := getD_set (by rw [hI.a]; exact hq)
theorem hand_so {l : List Ins} {f : Flow} (hI : FlowI l f) {q : Nat} (hq : q < l.length) (t : ByteArray) (k : Nat) : soF (handI q t f) k = if k = q then true else soF f k := getD_set (by rw [hI.b]; exact hq)
theorem hand_cl {l : List Ins} {f : Flow} (hI : FlowI l f) {q : Nat} (hq : q < l.length) (t : ByteArray) (k : Nat) : clF (handI q t f) k = if k = q then (clF f q || (soF f q && neB (stF f q) t)) else clF f k := by
  unfold handI clF
  simp only
  by_cases h : (f.2.1.getD q false && neB (f.1.getD q ByteArray.empty) t) = true
  · rw [if_pos h, getD_set (by rw [hI.c]; exact hq)]
    unfold soF stF
    rw [h, Bool.or_true]
  · rw [if_neg h]
    unfold soF stF
    rw [Bool.not_eq_true] at h
    rw [h, Bool.or_false]
    split
    · rename_i hk; rw [hk]
    · rfl
abbrev aftO (l : List Ins) (f : Flow) (j : Nat) : ByteArray := (afterI (l.getD j (0, 0, 0)) (stF f j)).1
abbrev aftE (l : List Ins) (f : Flow) (j : Nat) : Int := (afterI (l.getD j (0, 0, 0)) (stF f j)).2
structure FlowJ (l : List Ins) (m : List Int) (i : Nat) (f : Flow) : Prop where
  ok : ∀ j, j < i → aftE l f j = 0
  nx : ∀ j, j < i → ∀ q ∈ nextsI l j, soF f q = true ∧ (clF f q = false → stF f q = aftO l f j)
  nt : ∀ j, j < i → opAt l j = 22 → stF f (m.getD j 0).toNat = stF f j
  cl : ∀ j, j < i → clF f j = false
  z : stF f 0 = ByteArray.empty
theorem FlowJ.hand {l : List Ins} {m h : List Int} (hF : Fine l m h) {i : Nat} (hi : i < l.length) {f : Flow} (hI : FlowI l f) (hJ : FlowJ l m i f) {q : Nat} (hiq : i < q) (hq : q < l.length) (t : ByteArray) : FlowJ l m i (handI q t f) := by
  have hst := hand_st hI hq t
  have hso := hand_so hI hq t
  have hcl := hand_cl hI hq t
  have hlow : ∀ j, j < i → stF (handI q t f) j = stF f j := fun j hj => by rw [hst, if_neg (by omega)]
  refine ⟨fun j hj => ?_, fun j hj p hp => ?_, fun j hj ho => ?_, fun j hj => ?_, ?_⟩
  · unfold aftE
    rw [hlow j hj]
    exact hJ.ok j hj
  · obtain ⟨h1, h2⟩ := hJ.nx j hj p hp
    unfold aftO
    rw [hlow j hj, hso, hcl, hst]
    by_cases hpq : p = q
    · subst hpq
      rw [if_pos rfl, if_pos rfl, if_pos rfl]
      refine ⟨rfl, fun hc => ?_⟩
      rw [Bool.or_eq_false_iff, h1, Bool.true_and] at hc
      rw [← neB_false hc.2]
      exact h2 hc.1
    · rw [if_neg hpq, if_neg hpq, if_neg hpq]
      exact ⟨h1, h2⟩
  · obtain ⟨k, k1, k2, _⟩ := hF.closed.cl j (by omega) (.inl ho)
    have := hJ.nt j hj ho
    rw [k1, Int.toNat_natCast] at this ⊢
    rw [hlow j hj, hlow k (by omega)]
    exact this
  · rw [hcl, if_neg (by omega)]
    exact hJ.cl j hj
  · rw [hst, if_neg (by omega)]
    exact hJ.z
theorem fold_J {l : List Ins} {m h : List Int} (hF : Fine l m h) {i : Nat} (hi : i < l.length) {t : ByteArray} (ht : t.size ≤ 16) : ∀ (ks done : List Nat) {f : Flow}, FlowI l f → FlowJ l m i f → (∀ q ∈ ks, i < q ∧ q < l.length) → (∀ q ∈ done, q < l.length ∧ soF f q = true ∧ (clF f q = false → stF f q = t)) →
    FlowJ l m i (ks.foldl (fun g k => handI k t g) f) ∧ (∀ q ∈ done ++ ks, soF (ks.foldl (fun g k => handI k t g) f) q = true ∧ (clF (ks.foldl (fun g k => handI k t g) f) q = false → stF (ks.foldl (fun g k => handI k t g) f) q = t)) ∧ (∀ k, k ≤ i → stF (ks.foldl (fun g k => handI k t g) f) k = stF f k ∧ clF (ks.foldl (fun g k => handI k t g) f) k = clF f k)
  | [], done, f, hI, hJ, hk, hd => ⟨hJ, fun q hq => (hd q (by simpa using hq)).2, fun k _ => ⟨rfl, rfl⟩⟩
  | p :: ks, done, f, hI, hJ, hk, hd => by
    have hp := hk p (List.mem_cons_self ..)
    have hst := hand_st hI hp.2 t
    have hso := hand_so hI hp.2 t
    have hcl := hand_cl hI hp.2 t
    have ih := fold_J hF hi ht ks (done ++ [p]) (f := handI p t f) (handI_ok hI p ht) (hJ.hand hF hi hI hp.1 hp.2 t) (fun q hq => hk q (List.mem_cons_of_mem _ hq)) (fun q hq => by
      rw [List.mem_append, List.mem_singleton] at hq
      rw [hso, hcl, hst]
      by_cases hqp : q = p
      · subst hqp
        exact ⟨hp.2, by rw [if_pos rfl], fun _ => by rw [if_pos rfl]⟩
      · rw [if_neg hqp, if_neg hqp, if_neg hqp]
        exact hd q (hq.elim id fun h => absurd h hqp))
    refine ⟨ih.1, fun q hq => ih.2.1 q ?_, fun k hk => ?_⟩
    · rw [List.append_assoc]; exact hq
    · have h2 := ih.2.2 k hk
      refine ⟨h2.1.trans ?_, h2.2.trans ?_⟩
      · rw [hst, if_neg (by omega)]
      · rw [hcl, if_neg (by omega)]
theorem flowStep_J {l : List Ins} {m h : List Int} (hF : Fine l m h) {i : Nat} (hi : i < l.length) {f f' : Flow} (hI : FlowI l f) (hJ : FlowJ l m i f) (hs : flowStep l m i f = .inr f') : FlowJ l m (i + 1) f' := by
  unfold flowStep at hs
  split at hs
  · cases hs
  · rename_i h1
    split at hs
    · cases hs
    · rename_i h2
      split at hs
      · cases hs
      · rename_i h3
        split at hs
        · cases hs
        · rename_i h4
          cases hs
          have h4' : aftE l f i = 0 := Decidable.not_not.1 h4
          obtain ⟨a1, a2, a3⟩ := fold_J hF hi (t := aftO l f i) (after_size _ _) (nextsI l i) [] hI hJ (fun q hq => ⟨nexts_gt hq, hF.next hi q hq⟩) (fun q hq => by cases hq)
          rw [Bool.not_eq_true] at h2
          show FlowJ l m (i + 1) ((nextsI l i).foldl (fun g k => handI k (aftO l f i) g) f)
          generalize (nextsI l i).foldl (fun g k => handI k (aftO l f i) g) f = g at a1 a2 a3
          refine ⟨fun j hj => ?_, fun j hj q hq => ?_, fun j hj ho => ?_, fun j hj => ?_, a1.z⟩
          · rcases Nat.lt_or_ge j i with h | h
            · exact a1.ok j h
            · have : j = i := by omega
              subst this
              unfold aftE
              rw [(a3 j (Nat.le_refl _)).1]
              exact h4'
          · rcases Nat.lt_or_ge j i with h | h
            · exact a1.nx j h q hq
            · have : j = i := by omega
              subst this
              have := a2 q (by simpa using hq)
              refine ⟨this.1, fun hc => (this.2 hc).trans ?_⟩
              unfold aftO
              rw [(a3 j (Nat.le_refl _)).1]
          · rcases Nat.lt_or_ge j i with h | h
            · exact a1.nt j h ho
            · have : j = i := by omega
              subst this
              obtain ⟨k, k1, k2, _⟩ := hF.closed.cl j hi (.inl ho)
              rw [k1, Int.toNat_natCast] at h3 ⊢
              rw [(a3 j (Nat.le_refl _)).1, (a3 k (by omega)).1]
              cases h5 : neB (stF f k) (stF f j)
              · exact neB_false h5
              · exact absurd ⟨ho, h5⟩ h3
          · rcases Nat.lt_or_ge j i with h | h
            · exact a1.cl j h
            · have : j = i := by omega
              subst this
              rw [(a3 j (Nat.le_refl _)).2]
              exact h2
theorem stacksS_J {l : List Ins} {m h : List Int} (hF : Fine l m h) : ∀ (r i : Nat) {f f' : Flow}, FlowI l f → FlowJ l m i f → r + i = l.length → stacksS l m r i f = .inr f' → FlowI l f' ∧ FlowJ l m l.length f'
  | 0, i, f, f', hI, hJ, hr, hs => by
    cases hs
    have : i = l.length := by omega
    subst this
    exact ⟨hI, hJ⟩
  | r + 1, i, f, f', hI, hJ, hr, hs => by
    unfold stacksS at hs
    cases hq : flowStep l m i f with
    | inl e => rw [hq] at hs; cases hs
    | inr g => rw [hq] at hs; exact stacksS_J hF r (i + 1) (flowStep_ok hI hq) (flowStep_J hF (by omega) hI hJ hq) (by omega) hs
theorem stacksS_ne {l : List Ins} {m : List Int} : ∀ (r i : Nat) {f : Flow} {e : Int}, stacksS l m r i f = .inl e → e ≠ 0
  | 0, i, f, e, h => by cases h
  | r + 1, i, f, e, h => by
    unfold stacksS at h
    cases hq : flowStep l m i f with
    | inr g => rw [hq] at h; exact stacksS_ne r (i + 1) h
    | inl x =>
      rw [hq] at h
      cases h
      unfold flowStep at hq
      split at hq
      · cases hq; decide
      · split at hq
        · cases hq; decide
        · split at hq
          · cases hq; decide
          · split at hq
            · rename_i h4
              cases hq
              exact h4
            · cases hq
noncomputable def stacksL (l : List Ins) : List ByteArray := if wholeI l ≠ 0 then [] else match stacksS l (scanI l).1 l.length 0 (flow0 l) with
  | .inl _ => []
  | .inr s => s.1
abbrev stL (st : List ByteArray) (k : Nat) : ByteArray := st.getD k ByteArray.empty
structure Stk (l : List Ins) (m : List Int) (st : List ByteArray) : Prop where
  len : st.length = l.length
  sz : ∀ k, (stL st k).size ≤ 16
  ok : ∀ j, j < l.length → (afterI (l.getD j (0, 0, 0)) (stL st j)).2 = 0
  nx : ∀ j, j < l.length → ∀ q ∈ nextsI l j, stL st q = (afterI (l.getD j (0, 0, 0)) (stL st j)).1
  nt : ∀ j, j < l.length → opAt l j = 22 → stL st (m.getD j 0).toNat = stL st j
  z : stL st 0 = ByteArray.empty
theorem stacks_Stk {l : List Ins} (h : stacksI l = 0) : wholeI l = 0 ∧ Stk l (scanI l).1 (stacksL l) := by
  unfold stacksI at h
  by_cases hw : wholeI l = 0
  · refine ⟨hw, ?_⟩
    have hF := whole_fine hw
    have hl := hF.len
    rw [if_neg (fun h => h hw)] at h
    unfold stacksL
    rw [if_neg (fun h => h hw)]
    cases hq : stacksS l (scanI l).1 l.length 0 (flow0 l) with
    | inl e =>
      rw [hq] at h
      exact absurd h (stacksS_ne _ _ hq)
    | inr s =>
      have h0 : FlowJ l (scanI l).1 0 (flow0 l) := ⟨fun j hj => by omega, fun j hj => by omega, fun j hj => by omega, fun j hj => by omega, by
        unfold flow0 stF
        simp only [List.getD_eq_getElem?_getD, List.getElem?_replicate]
        split <;> rfl⟩
      obtain ⟨hI, hJ⟩ := stacksS_J hF l.length 0 (flow0_ok l) h0 (by omega) hq
      exact ⟨hI.a, hI.s, hJ.ok, fun j hj q hq => (hJ.nx j hj q hq).2 (hJ.cl q (hF.next hj q hq)), hJ.nt, hJ.z⟩
  · rw [if_pos hw] at h
    exact absurd h hw
theorem stacks_is2 (n : Nat) (l : List Ins) (hl : l.length < n) (hn3 : 3 < n) (hn : n < 1000000) : types_Stacks.f n l = some (stacksL l, stacksI l) := by
  unfold types_Stacks.f stacksI stacksL
  rw [whole_is n l hl hn, Option.bind_some]
  by_cases hw : wholeI l = 0
  · have hF := whole_fine hw
    have hI := flow0_ok l
    obtain ⟨l1, l2⟩ := hF.len
    obtain ⟨a, b, c, d, e, h⟩ := stacks_loop n hn3 hn hF n 0 hI (Nat.zero_le _) (by omega)
    have c1 : (decide (0 ≤ (l.length : Int)) && ((l.length : Int) == (l.length : Int)) && decide ((l.length : Int) * (16 : Int) ≤ 140737488355328) && decide (1 ≤ 16)) = true := by simp; omega
    have c2 : (decide (0 ≤ (l.length : Int)) && ((l.length : Int) == (l.length : Int)) && decide ((l.length : Int) * (1 : Int) ≤ 140737488355328) && decide (1 ≤ 1)) = true := by simp; omega
    rw [if_neg (fun h => (bne_iff_ne.1 h) hw), match_is n l hl hn, Option.bind_some, if_pos c1, if_pos c2, if_pos c2, if_neg (show ¬ (wholeI l ≠ 0) from fun h => h hw), if_neg (show ¬ (wholeI l ≠ 0) from fun h => h hw), Int.toNat_natCast]
    have hX : FlowI l (List.replicate l.length ByteArray.empty, List.replicate l.length false, List.replicate l.length false) := ⟨by simp, by simp, by simp, hI.s⟩
    have e0 : handI 0 (ByteArray.mk #[]) (List.replicate l.length ByteArray.empty, List.replicate l.length false, List.replicate l.length false) = flow0 l := by
      unfold handI flow0
      have e1 : (ByteArray.mk #[]) = ByteArray.empty := rfl
      have e2 : (List.replicate l.length false).getD 0 false = false := by
        simp only [List.getD_eq_getElem?_getD, List.getElem?_replicate]
        split <;> rfl
      simp only [e1, List.set_replicate_self, e2]
      rfl
    have h0 := stacks_hand n hX l1 (ByteArray.mk #[]) fun a b c d e => (types_Stacks.b3.l n ((scanI l).1, l, (l.length : Int), 0, c, d, e)).bind fun y4 => ((Sum.elim (fun (z5 : (((List ByteArray) × Int × Unit) × (((List ByteArray) × (List Bool) × (List Bool) × Unit) × Unit))) => (some (z5.1.1, z5.1.2.1))) (fun (z6 : (Unit × (((List ByteArray) × (List Bool) × (List Bool) × Unit) × Unit))) => (some (z6.2.1.1, (0 : Int))))) y4)
    rw [e0] at h0
    unfold types_Stacks.b3.l at h0 ⊢
    rw [Nat.sub_zero] at h
    refine h0.trans ?_
    rw [show ((0 : Nat) : Int) = 0 from rfl] at h
    rw [h]
    cases hq : stacksS l (scanI l).1 l.length 0 (flow0 l) with
    | inl z => rfl
    | inr s' => rfl
  · rw [if_pos (by simp only [bne_iff_ne, ne_eq]; exact hw), if_pos hw, if_pos hw]
end Go.Proofs.Dk

/- Plain: the steps of ways. -/
namespace Go.Proofs.Dk
open Go
set_option maxRecDepth 100000
set_option linter.unusedVariables false
set_option linter.unusedSimpArgs false
theorem right21 {A B : Int} (h : rightI (21, A, B) = true) : 1 ≤ A ∧ A ≤ 1000 := by
  have h1 := (right_is 0 (21, A, B)).symm.trans (opR21 0 A B)
  rw [h] at h1
  by_cases h2 : 1 ≤ A
  · by_cases h3 : A ≤ 1000
    · exact ⟨h2, h3⟩
    · rw [if_pos (decide_eq_true h2), if_neg (by simpa using h3)] at h1
      cases h1
  · rw [if_neg (by simpa using h2)] at h1
    cases h1
def addI (a b : Int) : Int := if 1048577 < a + b then 1048577 else a + b
def loopI (w A : Int) : Int := if addI w 1 = 1048577 then 1048577 else addI 1 (A * addI w 1)
def mN (m : List Int) (i : Nat) : Nat := (m.getD i 0).toNat
def costI (W : Nat → Nat → Int) (l : List Ins) (m : List Int) (i : Nat) : Int := if opAt l i = 21 then loopI (W (i + 1) (mN m i)) (argA l i) else 1
def hopsI (l : List Ins) (m : List Int) (i : Nat) : List Nat := if opAt l i = 21 then [mN m i + 1] else if opAt l i = 19 then [jumpTo l i] else if opAt l i = 20 then [jumpTo l i, i + 1] else [i + 1]
def putI (b : Int → Int → Int) (D : Nat → Int) (k : Nat) (v : Int) : Nat → Int := fun j => if j = k then (if D k = -1 then v else b (D k) v) else D j
def stepW (b : Int → Int → Int) (W : Nat → Nat → Int) (l : List Ins) (m : List Int) (i : Nat) (D : Nat → Int) : Nat → Int :=
  if D i = -1 then D else (hopsI l m i).foldl (fun g k => putI b g k (addI (D i) (costI W l m i))) D
def runW (b : Int → Int → Int) (W : Nat → Nat → Int) (l : List Ins) (m : List Int) : Nat → Nat → (Nat → Int) → Nat → Int
  | 0, _, D => D
  | r + 1, i, D => runW b W l m r (i + 1) (stepW b W l m i D)
def startW (a : Nat) : Nat → Int := fun j => if j = a then 0 else -1
def wayF (b : Int → Int → Int) (l : List Ins) (m : List Int) : Nat → Nat → Nat → Int
  | 0, _, _ => 0
  | f + 1, a, z => runW b (wayF b l m f) l m (z - a) a (startW a) z
structure Reg (l : List Ins) (m : List Int) (a z : Nat) : Prop where
  le : a ≤ z
  lt : z < l.length
  loop : ∀ i, a ≤ i → i < z → isOpen l i = true → ∃ j : Nat, m.getD i 0 = (j : Int) ∧ i < j ∧ j < z
  jump : ∀ i, a ≤ i → i < z → opAt l i = 19 ∨ opAt l i = 20 → jumpTo l i ≤ z
theorem Fine.reg {l : List Ins} {m h : List Int} (hF : Fine l m h) {p : Nat} (hp : p < l.length) (ho : isOpen l p = true) : Reg l m (p + 1) (mN m p) := by
  obtain ⟨j, j1, j2, j3⟩ := hF.nest.open_ p hp ho
  have hj : mN m p = j := by unfold mN; rw [j1]; rfl
  rw [hj]
  refine ⟨by omega, j3, fun i h1 h2 h3 => ?_, fun i h1 h2 h3 => ?_⟩
  · obtain ⟨q, q1, q2, q3⟩ := hF.nest.open_ i (by omega) h3
    obtain ⟨q', e1, e2⟩ := hF.nest.cross p i j (by omega) h2 hp ho h3 j1
    exact ⟨q, q1, q2, by omega⟩
  · obtain ⟨k1, k2⟩ := hF.jump (show i < l.length by omega) h3
    rcases Nat.lt_or_ge j (jumpTo l i) with hlt | hge
    · exfalso
      have e1 : enc l m p i = true := by
        unfold enc
        rw [ho, j1]
        simp; omega
      have e2 : enc l m p (jumpTo l i) = false := by
        unfold enc
        rw [ho, j1]
        simp; omega
      rcases home_cases l m i with hh | ⟨q, hh⟩
      · rw [enc_none hh p] at e1; cases e1
      · obtain ⟨_, _, x3⟩ := enc_home hF.nest (show i < l.length by omega) hh
        obtain ⟨_, _, y3⟩ := enc_home hF.nest k1 (k2.trans hh)
        rw [y3 p, ← x3 p, e1] at e2
        cases e2
    · exact hge
theorem Fine.all {l : List Ins} {m h : List Int} (hF : Fine l m h) : Reg l m 0 (l.length - 1) := by
  obtain ⟨l1, l2⟩ := hF.len
  refine ⟨Nat.zero_le _, by omega, fun i h1 h2 h3 => ?_, fun i h1 h2 h3 => ?_⟩
  · obtain ⟨j, j1, j2, j3, j4, j5⟩ := hF.closed.op_ i (by omega) h3
    refine ⟨j, j1, j2, ?_⟩
    have : j ≠ l.length - 1 := fun e => by
      subst e
      have h5 := hF.last
      have h6 := ends_op (l.getD i (0, 0, 0))
      unfold opAt at h5
      rw [j4] at h5
      omega
    omega
  · have := (hF.jump (show i < l.length by omega) h3).1
    omega
def StepsI (v : Int) : Prop := v = -1 ∨ (0 ≤ v ∧ v ≤ 1048577)
theorem addI_ok {a b : Int} (h1 : 0 ≤ a) (h2 : 0 ≤ b) : 0 ≤ addI a b ∧ addI a b ≤ 1048577 := by
  unfold addI
  split <;> omega
theorem loopI_ok {w A : Int} (hw : StepsI w) (hA : 1 ≤ A ∧ A ≤ 1000) : 0 ≤ loopI w A ∧ loopI w A ≤ 1048577 := by
  have h1 : 0 ≤ addI w 1 ∧ addI w 1 ≤ 1048577 := by
    rcases hw with rfl | h
    · decide
    · exact addI_ok h.1 (by decide)
  unfold loopI
  split
  · omega
  · exact addI_ok (by decide) (Int.mul_nonneg (by omega) h1.1)
def Bet (b : Int → Int → Int) : Prop := ∀ x y, b x y = x ∨ b x y = y
theorem putI_ok {b : Int → Int → Int} (hb : Bet b) {D : Nat → Int} (hD : ∀ k, StepsI (D k)) (k : Nat) {v : Int} (hv : 0 ≤ v ∧ v ≤ 1048577) : ∀ j, StepsI (putI b D k v j) := by
  intro j
  unfold putI
  split
  · split
    · exact .inr hv
    · rcases hb (D k) v with h | h
      · rw [h]; exact hD k
      · rw [h]; exact .inr hv
  · exact hD j
theorem puts_ok {b : Int → Int → Int} (hb : Bet b) {v : Int} (hv : 0 ≤ v ∧ v ≤ 1048577) : ∀ (ks : List Nat) {D : Nat → Int}, (∀ k, StepsI (D k)) → ∀ k, StepsI (ks.foldl (fun g k => putI b g k v) D k)
  | [], D, hD => hD
  | k :: ks, D, hD => puts_ok hb hv ks (putI_ok hb hD k hv)
theorem costI_ok {W : Nat → Nat → Int} {l : List Ins} {m : List Int} {i : Nat} (hr : rightI (l.getD i (0, 0, 0)) = true) (hW : opAt l i = 21 → StepsI (W (i + 1) (mN m i))) : 0 ≤ costI W l m i ∧ costI W l m i ≤ 1048577 := by
  unfold costI
  split
  · rename_i h
    refine loopI_ok (hW h) ?_
    unfold argA
    unfold opAt at h
    generalize l.getD i (0, 0, 0) = x at *
    obtain ⟨o, A, B⟩ := x
    simp only at h
    subst h
    exact right21 hr
  · omega
theorem stepW_ok {b : Int → Int → Int} (hb : Bet b) {W : Nat → Nat → Int} {l : List Ins} {m : List Int} {i : Nat} {D : Nat → Int} (hD : ∀ k, StepsI (D k)) (hr : rightI (l.getD i (0, 0, 0)) = true) (hW : opAt l i = 21 → StepsI (W (i + 1) (mN m i))) : ∀ k, StepsI (stepW b W l m i D k) := by
  unfold stepW
  split
  · exact hD
  · rename_i h
    have hi : 0 ≤ D i := by
      rcases hD i with h1 | h1
      · exact absurd h1 h
      · exact h1.1
    exact puts_ok hb (addI_ok hi (costI_ok hr hW).1) _ hD
theorem runW_ok {b : Int → Int → Int} (hb : Bet b) {W : Nat → Nat → Int} {l : List Ins} {m : List Int} (hr : ∀ i, i < l.length → rightI (l.getD i (0, 0, 0)) = true) : ∀ (r i : Nat) {D : Nat → Int}, (∀ k, StepsI (D k)) → r + i ≤ l.length → (∀ k, i ≤ k → k < r + i → opAt l k = 21 → StepsI (W (k + 1) (mN m k))) → ∀ k, StepsI (runW b W l m r i D k)
  | 0, i, D, hD, hi, hW => hD
  | r + 1, i, D, hD, hi, hW => runW_ok hb hr r (i + 1) (stepW_ok hb hD (hr i (by omega)) (hW i (Nat.le_refl _) (by omega))) (by omega) fun k h1 h2 => hW k (by omega) (by omega)
theorem startW_ok (a : Nat) : ∀ k, StepsI (startW a k) := fun k => by
  unfold startW
  split
  · exact .inr (by decide)
  · exact .inl rfl
theorem wayF_ok {b : Int → Int → Int} (hb : Bet b) {l : List Ins} {m h : List Int} (hF : Fine l m h) : ∀ (f : Nat) {a z : Nat}, Reg l m a z → StepsI (wayF b l m f a z)
  | 0, a, z, hR => .inr (by show 0 ≤ (0 : Int) ∧ (0 : Int) ≤ 1048577; decide)
  | f + 1, a, z, hR => by
    have h1 := hR.le
    have h2 := hR.lt
    exact runW_ok hb (fun i hi => hF.right hi) (z - a) a (startW_ok a) (by omega) (fun k k1 k2 k3 => wayF_ok hb hF f (hF.reg (by omega) (isOpen_iff.2 (.inl k3)))) z
end Go.Proofs.Dk

/- Plain: the steps of ways, by the program. -/
namespace Go.Proofs.Dk
open Go
set_option maxRecDepth 100000
set_option linter.unusedVariables false
set_option linter.unusedSimpArgs false
def bM (x y : Int) : Int := if y > x then y else x
def bL (x y : Int) : Int := if y < x then y else x
theorem bM_bet : Bet bM := fun x y => by
  unfold bM
  split
  · exact .inr rfl
  · exact .inl rfl
theorem bL_bet : Bet bL := fun x y => by
  unfold bL
  split
  · exact .inr rfl
  · exact .inl rfl
theorem costadd_is (n : Nat) {a b : Int} (h1 : -1 ≤ a) (h2 : a ≤ 1048577) (h3 : -1 ≤ b) (h4 : b ≤ 1048577) : cost_add.f n a b = some (addI a b) := by
  unfold cost_add.f addI
  rw [wrap_id (by omega) (by omega)]
structure LD (d : List Int) (D : Nat → Int) (a z : Nat) : Prop where
  len : d.length = z - a + 1
  at_ : ∀ k, a ≤ k → k ≤ z → d.getD (k - a) 0 = D k
theorem LD.put {d : List Int} {D : Nat → Int} {a z : Nat} (h : LD d D a z) (b : Int → Int → Int) {k : Nat} (hk : a ≤ k) (hk2 : k ≤ z) (v : Int) : LD (d.set (k - a) (if d.getD (k - a) 0 = -1 then v else b (d.getD (k - a) 0) v)) (putI b D k v) a z := by
  have hl := h.len
  refine ⟨by rw [List.length_set, hl], fun j h1 h2 => ?_⟩
  rw [getD_set (by omega), h.at_ k hk hk2]
  unfold putI
  by_cases e : j = k
  · subst e
    rw [if_pos rfl, if_pos rfl]
  · rw [if_neg (by omega), if_neg e, h.at_ j h1 h2]

theorem cost_most_is (n : Nat) (x y : Int) : cost_most.f n x y = some (bM x y) := rfl
theorem most_hand (n : Nat) {d : List Int} {k : Nat} (hk : k < d.length) (v : Int) {R : Type} (K : List Int → Option R) :
    (if (decide (0 ≤ (k : Int)) && decide ((k : Int) < (d.length : Int))) = true then (if (d.getD k 0 != (-1)) = true then ((cost_most.f n (d.getD k 0) v).bind fun y => if (decide (0 ≤ (k : Int)) && decide ((k : Int) < (d.length : Int))) = true then K (d.set k y) else none) else (if (decide (0 ≤ (k : Int)) && decide ((k : Int) < (d.length : Int))) = true then K (d.set k v) else none)) else none) = K (d.set k (if d.getD k 0 = -1 then v else bM (d.getD k 0) v)) := by
  simp only [if_pos (in_ix hk), cost_most_is, Option.bind_some]
  by_cases h : d.getD k 0 = -1
  · rw [if_neg (fun h2 => (bne_iff_ne.1 h2) h), if_pos h]
  · rw [if_pos (bne_iff_ne.2 h), if_neg h]
theorem cost_counter_loop_most_is (n : Nat) (W : ((((List (Int × (Int × Int))) × (List Int)) × Int × Int × Unit) × Unit) → Option Int) {l : List Ins} {m : List Int} (hl : l.length < 1000000) (hm : m.length = l.length) {i : Nat} (hi : i < l.length) {w : Int} (hj : m.getD i 0 = ((mN m i : Nat) : Int)) (hW : W (((l, m), ((i + 1 : Nat) : Int), ((mN m i : Nat) : Int), ()), ()) = some w) (hw : StepsI w) (hA : 1 ≤ argA l i ∧ argA l i ≤ 1000) : cost_counter_loop_most.f n W (l, m) (i : Int) = some (loopI w (argA l i)) := by
  unfold cost_counter_loop_most.f loopI
  simp only [Int.toNat_natCast, next_ix (show i < 1000000 by omega), if_pos (in_ix hi), if_pos (in_ix (show i < m.length by omega)), hj, hW, Option.bind_some]
  have hw2 : -1 ≤ w ∧ w ≤ 1048577 := by rcases hw with rfl | h <;> omega
  rw [costadd_is n hw2.1 hw2.2 (by decide) (by decide), Option.bind_some]
  have h1 : 0 ≤ addI w 1 ∧ addI w 1 ≤ 1048577 := by
    rcases hw with rfl | h
    · decide
    · exact addI_ok h.1 (by decide)
  generalize addI w 1 = x at h1 ⊢
  by_cases hx : x = 1048577
  · rw [if_pos (by simpa only [beq_iff_eq] using hx), if_pos hx]
  · rw [if_neg (by simpa only [beq_iff_eq] using hx), if_neg hx]
    unfold argA at hA ⊢
    generalize (l.getD i (0, 0, 0)).2.1 = A at hA ⊢
    have hb : 0 ≤ A * x ∧ A * x ≤ 1000 * 1048577 := ⟨Int.mul_nonneg (by omega) h1.1, Int.mul_le_mul hA.2 h1.2 h1.1 (by decide)⟩
    rw [wrap_id (e := A * x) (by omega) (by omega), wrap_id (by omega) (by omega)]
    rfl
theorem most_j1 (n : Nat) (W : ((((List (Int × (Int × Int))) × (List Int)) × Int × Int × Unit) × Unit) → Option Int) {l : List Ins} {m h : List Int} (hF : Fine l m h) {Wp : Nat → Nat → Int} {a z : Nat} (hR : Reg l m a z) {i : Nat} (hi : a ≤ i) (hi2 : i < z) (hW : opAt l i = 21 → W (((l, m), ((i + 1 : Nat) : Int), ((mN m i : Nat) : Int), ()), ()) = some (Wp (i + 1) (mN m i)) ∧ StepsI (Wp (i + 1) (mN m i))) {d : List Int} {D : Nat → Int} (hL : LD d D a z) (hD : ∀ k, StepsI (D k)) (zz : Int) :
    ∃ d', LD d' (stepW bM Wp l m i D) a z ∧ cost_counter_way_most.j1 n W zz (i : Int) l m (a : Int) d = some (zz, (i : Int), l, m, (a : Int), d') := by
  obtain ⟨l1, l2⟩ := hF.len
  have hlt := hR.lt
  have hdl := hL.len
  have hat := hL.at_ i hi (by omega)
  have hr := hF.right (show i < l.length by omega)
  have hm := hF.nest.hm
  unfold cost_counter_way_most.j1
  simp only [cut_ix hi (show i < 1000000 by omega), Int.toNat_natCast, next_ix (show i < 1000000 by omega), if_pos (in_ix (show i < l.length by omega)), if_pos (in_ix (show i < m.length by omega)), if_pos (in_ix (show i - a < d.length by omega)), cut_ix (show a ≤ i + 1 by omega) (show i + 1 < 1000000 by omega), hat]
  by_cases hn : D i = -1
  · refine ⟨d, ?_, ?_⟩
    · unfold stepW
      rw [if_pos hn]
      exact hL
    · rw [if_pos (by simpa only [beq_iff_eq] using hn)]
  · rw [if_neg (by simpa only [beq_iff_eq] using hn)]
    have hDi : 0 ≤ D i ∧ D i ≤ 1048577 := by
      rcases hD i with h1 | h1
      · exact absurd h1 hn
      · exact h1
    by_cases h21 : (l.getD i (0, 0, 0)).1 = 21
    · rw [if_pos (show ((l.getD i (0, 0, 0)).1 == 21) = true by simpa only [beq_iff_eq] using h21)]
      obtain ⟨j, j1, j2, j3⟩ := hR.loop i hi hi2 (isOpen_iff.2 (.inl h21))
      have hj : mN m i = j := by unfold mN; rw [j1]; rfl
      have hA : 1 ≤ argA l i ∧ argA l i ≤ 1000 := by
        unfold argA
        generalize l.getD i (0, 0, 0) = x at *
        obtain ⟨o, A, B⟩ := x
        simp only at h21
        subst h21
        exact right21 hr
      obtain ⟨w1, w2⟩ := hW h21
      have hc : costI Wp l m i = loopI (Wp (i + 1) (mN m i)) (argA l i) := by unfold costI; rw [if_pos h21]
      have hlo := loopI_ok w2 hA
      rw [cost_counter_loop_most_is n W (by omega) hm (by omega) (by rw [hj]; exact j1) w1 w2 hA, Option.bind_some, ← hc]
      rw [← hc] at hlo
      rw [costadd_is n (by omega) hDi.2 (by omega) hlo.2, Option.bind_some]
      simp only [j1, next_ix (show j < 1000000 by omega), cut_ix (show a ≤ j + 1 by omega) (show j + 1 < 1000000 by omega), Int.toNat_natCast]
      refine ⟨_, ?_, most_hand n (show j + 1 - a < d.length by omega) (addI (D i) (costI Wp l m i)) fun d' => some (zz, (i : Int), l, m, (a : Int), d')⟩
      have := hL.put bM (show a ≤ j + 1 by omega) (show j + 1 ≤ z by omega) (addI (D i) (costI Wp l m i))
      unfold stepW hopsI
      rw [if_neg hn, if_pos h21, hj]
      exact this
    · rw [if_neg (show ¬ ((l.getD i (0, 0, 0)).1 == 21) = true by simpa only [beq_iff_eq] using h21)]
      have hc : costI Wp l m i = 1 := by unfold costI; rw [if_neg h21]
      rw [costadd_is n (by omega) hDi.2 (by decide) (by decide)]
      simp only [Option.bind_some]
      by_cases h19 : (l.getD i (0, 0, 0)).1 = 19
      · rw [if_pos (show ((l.getD i (0, 0, 0)).1 == 19) = true by simpa only [beq_iff_eq] using h19)]
        have hjt := hR.jump i hi hi2 (.inl h19)
        have hji : i < jumpTo l i := by unfold jumpTo; omega
        simp only [jump_ix (show l.length < 1000000 by omega) (show i < l.length by omega) hr (.inl h19), cut_ix (show a ≤ jumpTo l i by omega) (show jumpTo l i < 1000000 by omega), Int.toNat_natCast]
        refine ⟨_, ?_, most_hand n (show jumpTo l i - a < d.length by omega) (addI (D i) 1) fun d' => some (zz, (i : Int), l, m, (a : Int), d')⟩
        have := hL.put bM (show a ≤ jumpTo l i by omega) hjt (addI (D i) 1)
        unfold stepW hopsI
        rw [if_neg hn, if_neg h21, if_pos h19, hc]
        exact this
      · rw [if_neg (show ¬ ((l.getD i (0, 0, 0)).1 == 19) = true by simpa only [beq_iff_eq] using h19)]
        by_cases h20 : (l.getD i (0, 0, 0)).1 = 20
        · rw [if_pos (show ((l.getD i (0, 0, 0)).1 == 20) = true by simpa only [beq_iff_eq] using h20)]
          have hjt := hR.jump i hi hi2 (.inr h20)
          have hji : i < jumpTo l i := by unfold jumpTo; omega
          simp only [jump_ix (show l.length < 1000000 by omega) (show i < l.length by omega) hr (.inr h20), cut_ix (show a ≤ jumpTo l i by omega) (show jumpTo l i < 1000000 by omega), Int.toNat_natCast]
          have h1 := hL.put bM (show a ≤ jumpTo l i by omega) hjt (addI (D i) 1)
          have h2 := h1.put bM (show a ≤ i + 1 by omega) (show i + 1 ≤ z by omega) (addI (D i) 1)
          refine ⟨_, ?_, (most_hand n (show jumpTo l i - a < d.length by omega) (addI (D i) 1) fun d1 => (if (decide (0 ≤ ((i + 1 - a : Nat) : Int)) && decide (((i + 1 - a : Nat) : Int) < (d1.length : Int))) = true then (if (d1.getD (i + 1 - a) 0 != (-1)) = true then ((cost_most.f n (d1.getD (i + 1 - a) 0) (addI (D i) 1)).bind fun y => if (decide (0 ≤ ((i + 1 - a : Nat) : Int)) && decide (((i + 1 - a : Nat) : Int) < (d1.length : Int))) = true then some (zz, (i : Int), l, m, (a : Int), d1.set (i + 1 - a) y) else none) else (if (decide (0 ≤ ((i + 1 - a : Nat) : Int)) && decide (((i + 1 - a : Nat) : Int) < (d1.length : Int))) = true then some (zz, (i : Int), l, m, (a : Int), d1.set (i + 1 - a) (addI (D i) 1)) else none)) else none)).trans (most_hand n (by rw [List.length_set]; omega) (addI (D i) 1) fun d' => some (zz, (i : Int), l, m, (a : Int), d'))⟩
          unfold stepW hopsI
          rw [if_neg hn, if_neg h21, if_neg h19, if_pos h20, hc]
          exact h2
        · rw [if_neg (show ¬ ((l.getD i (0, 0, 0)).1 == 20) = true by simpa only [beq_iff_eq] using h20)]
          refine ⟨_, ?_, most_hand n (show i + 1 - a < d.length by omega) (addI (D i) 1) fun d' => some (zz, (i : Int), l, m, (a : Int), d')⟩
          have := hL.put bM (show a ≤ i + 1 by omega) (show i + 1 ≤ z by omega) (addI (D i) 1)
          unfold stepW hopsI
          rw [if_neg hn, if_neg h21, if_neg h19, if_neg h20, hc]
          exact this

theorem cost_least_is (n : Nat) (x y : Int) : cost_least.f n x y = some (bL x y) := rfl
theorem least_hand (n : Nat) {d : List Int} {k : Nat} (hk : k < d.length) (v : Int) {R : Type} (K : List Int → Option R) :
    (if (decide (0 ≤ (k : Int)) && decide ((k : Int) < (d.length : Int))) = true then (if (d.getD k 0 != (-1)) = true then ((cost_least.f n (d.getD k 0) v).bind fun y => if (decide (0 ≤ (k : Int)) && decide ((k : Int) < (d.length : Int))) = true then K (d.set k y) else none) else (if (decide (0 ≤ (k : Int)) && decide ((k : Int) < (d.length : Int))) = true then K (d.set k v) else none)) else none) = K (d.set k (if d.getD k 0 = -1 then v else bL (d.getD k 0) v)) := by
  simp only [if_pos (in_ix hk), cost_least_is, Option.bind_some]
  by_cases h : d.getD k 0 = -1
  · rw [if_neg (fun h2 => (bne_iff_ne.1 h2) h), if_pos h]
  · rw [if_pos (bne_iff_ne.2 h), if_neg h]
theorem cost_counter_loop_least_is (n : Nat) (W : ((((List (Int × (Int × Int))) × (List Int)) × Int × Int × Unit) × Unit) → Option Int) {l : List Ins} {m : List Int} (hl : l.length < 1000000) (hm : m.length = l.length) {i : Nat} (hi : i < l.length) {w : Int} (hj : m.getD i 0 = ((mN m i : Nat) : Int)) (hW : W (((l, m), ((i + 1 : Nat) : Int), ((mN m i : Nat) : Int), ()), ()) = some w) (hw : StepsI w) (hA : 1 ≤ argA l i ∧ argA l i ≤ 1000) : cost_counter_loop_least.f n W (l, m) (i : Int) = some (loopI w (argA l i)) := by
  unfold cost_counter_loop_least.f loopI
  simp only [Int.toNat_natCast, next_ix (show i < 1000000 by omega), if_pos (in_ix hi), if_pos (in_ix (show i < m.length by omega)), hj, hW, Option.bind_some]
  have hw2 : -1 ≤ w ∧ w ≤ 1048577 := by rcases hw with rfl | h <;> omega
  rw [costadd_is n hw2.1 hw2.2 (by decide) (by decide), Option.bind_some]
  have h1 : 0 ≤ addI w 1 ∧ addI w 1 ≤ 1048577 := by
    rcases hw with rfl | h
    · decide
    · exact addI_ok h.1 (by decide)
  generalize addI w 1 = x at h1 ⊢
  by_cases hx : x = 1048577
  · rw [if_pos (by simpa only [beq_iff_eq] using hx), if_pos hx]
  · rw [if_neg (by simpa only [beq_iff_eq] using hx), if_neg hx]
    unfold argA at hA ⊢
    generalize (l.getD i (0, 0, 0)).2.1 = A at hA ⊢
    have hb : 0 ≤ A * x ∧ A * x ≤ 1000 * 1048577 := ⟨Int.mul_nonneg (by omega) h1.1, Int.mul_le_mul hA.2 h1.2 h1.1 (by decide)⟩
    rw [wrap_id (e := A * x) (by omega) (by omega), wrap_id (by omega) (by omega)]
    rfl
theorem least_j1 (n : Nat) (W : ((((List (Int × (Int × Int))) × (List Int)) × Int × Int × Unit) × Unit) → Option Int) {l : List Ins} {m h : List Int} (hF : Fine l m h) {Wp : Nat → Nat → Int} {a z : Nat} (hR : Reg l m a z) {i : Nat} (hi : a ≤ i) (hi2 : i < z) (hW : opAt l i = 21 → W (((l, m), ((i + 1 : Nat) : Int), ((mN m i : Nat) : Int), ()), ()) = some (Wp (i + 1) (mN m i)) ∧ StepsI (Wp (i + 1) (mN m i))) {d : List Int} {D : Nat → Int} (hL : LD d D a z) (hD : ∀ k, StepsI (D k)) (zz : Int) :
    ∃ d', LD d' (stepW bL Wp l m i D) a z ∧ cost_counter_way_least.j1 n W zz (i : Int) l m (a : Int) d = some (zz, (i : Int), l, m, (a : Int), d') := by
  obtain ⟨l1, l2⟩ := hF.len
  have hlt := hR.lt
  have hdl := hL.len
  have hat := hL.at_ i hi (by omega)
  have hr := hF.right (show i < l.length by omega)
  have hm := hF.nest.hm
  unfold cost_counter_way_least.j1
  simp only [cut_ix hi (show i < 1000000 by omega), Int.toNat_natCast, next_ix (show i < 1000000 by omega), if_pos (in_ix (show i < l.length by omega)), if_pos (in_ix (show i < m.length by omega)), if_pos (in_ix (show i - a < d.length by omega)), cut_ix (show a ≤ i + 1 by omega) (show i + 1 < 1000000 by omega), hat]
  by_cases hn : D i = -1
  · refine ⟨d, ?_, ?_⟩
    · unfold stepW
      rw [if_pos hn]
      exact hL
    · rw [if_pos (by simpa only [beq_iff_eq] using hn)]
  · rw [if_neg (by simpa only [beq_iff_eq] using hn)]
    have hDi : 0 ≤ D i ∧ D i ≤ 1048577 := by
      rcases hD i with h1 | h1
      · exact absurd h1 hn
      · exact h1
    by_cases h21 : (l.getD i (0, 0, 0)).1 = 21
    · rw [if_pos (show ((l.getD i (0, 0, 0)).1 == 21) = true by simpa only [beq_iff_eq] using h21)]
      obtain ⟨j, j1, j2, j3⟩ := hR.loop i hi hi2 (isOpen_iff.2 (.inl h21))
      have hj : mN m i = j := by unfold mN; rw [j1]; rfl
      have hA : 1 ≤ argA l i ∧ argA l i ≤ 1000 := by
        unfold argA
        generalize l.getD i (0, 0, 0) = x at *
        obtain ⟨o, A, B⟩ := x
        simp only at h21
        subst h21
        exact right21 hr
      obtain ⟨w1, w2⟩ := hW h21
      have hc : costI Wp l m i = loopI (Wp (i + 1) (mN m i)) (argA l i) := by unfold costI; rw [if_pos h21]
      have hlo := loopI_ok w2 hA
      rw [cost_counter_loop_least_is n W (by omega) hm (by omega) (by rw [hj]; exact j1) w1 w2 hA, Option.bind_some, ← hc]
      rw [← hc] at hlo
      rw [costadd_is n (by omega) hDi.2 (by omega) hlo.2, Option.bind_some]
      simp only [j1, next_ix (show j < 1000000 by omega), cut_ix (show a ≤ j + 1 by omega) (show j + 1 < 1000000 by omega), Int.toNat_natCast]
      refine ⟨_, ?_, least_hand n (show j + 1 - a < d.length by omega) (addI (D i) (costI Wp l m i)) fun d' => some (zz, (i : Int), l, m, (a : Int), d')⟩
      have := hL.put bL (show a ≤ j + 1 by omega) (show j + 1 ≤ z by omega) (addI (D i) (costI Wp l m i))
      unfold stepW hopsI
      rw [if_neg hn, if_pos h21, hj]
      exact this
    · rw [if_neg (show ¬ ((l.getD i (0, 0, 0)).1 == 21) = true by simpa only [beq_iff_eq] using h21)]
      have hc : costI Wp l m i = 1 := by unfold costI; rw [if_neg h21]
      rw [costadd_is n (by omega) hDi.2 (by decide) (by decide)]
      simp only [Option.bind_some]
      by_cases h19 : (l.getD i (0, 0, 0)).1 = 19
      · rw [if_pos (show ((l.getD i (0, 0, 0)).1 == 19) = true by simpa only [beq_iff_eq] using h19)]
        have hjt := hR.jump i hi hi2 (.inl h19)
        have hji : i < jumpTo l i := by unfold jumpTo; omega
        simp only [jump_ix (show l.length < 1000000 by omega) (show i < l.length by omega) hr (.inl h19), cut_ix (show a ≤ jumpTo l i by omega) (show jumpTo l i < 1000000 by omega), Int.toNat_natCast]
        refine ⟨_, ?_, least_hand n (show jumpTo l i - a < d.length by omega) (addI (D i) 1) fun d' => some (zz, (i : Int), l, m, (a : Int), d')⟩
        have := hL.put bL (show a ≤ jumpTo l i by omega) hjt (addI (D i) 1)
        unfold stepW hopsI
        rw [if_neg hn, if_neg h21, if_pos h19, hc]
        exact this
      · rw [if_neg (show ¬ ((l.getD i (0, 0, 0)).1 == 19) = true by simpa only [beq_iff_eq] using h19)]
        by_cases h20 : (l.getD i (0, 0, 0)).1 = 20
        · rw [if_pos (show ((l.getD i (0, 0, 0)).1 == 20) = true by simpa only [beq_iff_eq] using h20)]
          have hjt := hR.jump i hi hi2 (.inr h20)
          have hji : i < jumpTo l i := by unfold jumpTo; omega
          simp only [jump_ix (show l.length < 1000000 by omega) (show i < l.length by omega) hr (.inr h20), cut_ix (show a ≤ jumpTo l i by omega) (show jumpTo l i < 1000000 by omega), Int.toNat_natCast]
          have h1 := hL.put bL (show a ≤ jumpTo l i by omega) hjt (addI (D i) 1)
          have h2 := h1.put bL (show a ≤ i + 1 by omega) (show i + 1 ≤ z by omega) (addI (D i) 1)
          refine ⟨_, ?_, (least_hand n (show jumpTo l i - a < d.length by omega) (addI (D i) 1) fun d1 => (if (decide (0 ≤ ((i + 1 - a : Nat) : Int)) && decide (((i + 1 - a : Nat) : Int) < (d1.length : Int))) = true then (if (d1.getD (i + 1 - a) 0 != (-1)) = true then ((cost_least.f n (d1.getD (i + 1 - a) 0) (addI (D i) 1)).bind fun y => if (decide (0 ≤ ((i + 1 - a : Nat) : Int)) && decide (((i + 1 - a : Nat) : Int) < (d1.length : Int))) = true then some (zz, (i : Int), l, m, (a : Int), d1.set (i + 1 - a) y) else none) else (if (decide (0 ≤ ((i + 1 - a : Nat) : Int)) && decide (((i + 1 - a : Nat) : Int) < (d1.length : Int))) = true then some (zz, (i : Int), l, m, (a : Int), d1.set (i + 1 - a) (addI (D i) 1)) else none)) else none)).trans (least_hand n (by rw [List.length_set]; omega) (addI (D i) 1) fun d' => some (zz, (i : Int), l, m, (a : Int), d'))⟩
          unfold stepW hopsI
          rw [if_neg hn, if_neg h21, if_neg h19, if_pos h20, hc]
          exact h2
        · rw [if_neg (show ¬ ((l.getD i (0, 0, 0)).1 == 20) = true by simpa only [beq_iff_eq] using h20)]
          refine ⟨_, ?_, least_hand n (show i + 1 - a < d.length by omega) (addI (D i) 1) fun d' => some (zz, (i : Int), l, m, (a : Int), d')⟩
          have := hL.put bL (show a ≤ i + 1 by omega) (show i + 1 ≤ z by omega) (addI (D i) 1)
          unfold stepW hopsI
          rw [if_neg hn, if_neg h21, if_neg h19, if_neg h20, hc]
          exact this

theorem cost_Sections_1_is (n : Nat) (x y : Int) : cost_Sections_1.f n x y = some (bM x y) := rfl
theorem sect_hand (n : Nat) {d : List Int} {k : Nat} (hk : k < d.length) (v : Int) {R : Type} (K : List Int → Option R) :
    (if (decide (0 ≤ (k : Int)) && decide ((k : Int) < (d.length : Int))) = true then (if (d.getD k 0 != (-1)) = true then ((cost_Sections_1.f n (d.getD k 0) v).bind fun y => if (decide (0 ≤ (k : Int)) && decide ((k : Int) < (d.length : Int))) = true then K (d.set k y) else none) else (if (decide (0 ≤ (k : Int)) && decide ((k : Int) < (d.length : Int))) = true then K (d.set k v) else none)) else none) = K (d.set k (if d.getD k 0 = -1 then v else bM (d.getD k 0) v)) := by
  simp only [if_pos (in_ix hk), cost_Sections_1_is, Option.bind_some]
  by_cases h : d.getD k 0 = -1
  · rw [if_neg (fun h2 => (bne_iff_ne.1 h2) h), if_pos h]
  · rw [if_pos (bne_iff_ne.2 h), if_neg h]
theorem cost_counter_loop_1_is (n : Nat) (W : ((((List (Int × (Int × Int))) × (List Int)) × Int × Int × Unit) × Unit) → Option Int) {l : List Ins} {m : List Int} (hl : l.length < 1000000) (hm : m.length = l.length) {i : Nat} (hi : i < l.length) {w : Int} (hj : m.getD i 0 = ((mN m i : Nat) : Int)) (hW : W (((l, m), ((i + 1 : Nat) : Int), ((mN m i : Nat) : Int), ()), ()) = some w) (hw : StepsI w) (hA : 1 ≤ argA l i ∧ argA l i ≤ 1000) : cost_counter_loop_1.f n W (l, m) (i : Int) = some (loopI w (argA l i)) := by
  unfold cost_counter_loop_1.f loopI
  simp only [Int.toNat_natCast, next_ix (show i < 1000000 by omega), if_pos (in_ix hi), if_pos (in_ix (show i < m.length by omega)), hj, hW, Option.bind_some]
  have hw2 : -1 ≤ w ∧ w ≤ 1048577 := by rcases hw with rfl | h <;> omega
  rw [costadd_is n hw2.1 hw2.2 (by decide) (by decide), Option.bind_some]
  have h1 : 0 ≤ addI w 1 ∧ addI w 1 ≤ 1048577 := by
    rcases hw with rfl | h
    · decide
    · exact addI_ok h.1 (by decide)
  generalize addI w 1 = x at h1 ⊢
  by_cases hx : x = 1048577
  · rw [if_pos (by simpa only [beq_iff_eq] using hx), if_pos hx]
  · rw [if_neg (by simpa only [beq_iff_eq] using hx), if_neg hx]
    unfold argA at hA ⊢
    generalize (l.getD i (0, 0, 0)).2.1 = A at hA ⊢
    have hb : 0 ≤ A * x ∧ A * x ≤ 1000 * 1048577 := ⟨Int.mul_nonneg (by omega) h1.1, Int.mul_le_mul hA.2 h1.2 h1.1 (by decide)⟩
    rw [wrap_id (e := A * x) (by omega) (by omega), wrap_id (by omega) (by omega)]
    rfl
theorem sect_j1 (n : Nat) (W : ((((List (Int × (Int × Int))) × (List Int)) × Int × Int × Unit) × Unit) → Option Int) {l : List Ins} {m h : List Int} (hF : Fine l m h) {Wp : Nat → Nat → Int} {a z : Nat} (hR : Reg l m a z) {i : Nat} (hi : a ≤ i) (hi2 : i < z) (hW : opAt l i = 21 → W (((l, m), ((i + 1 : Nat) : Int), ((mN m i : Nat) : Int), ()), ()) = some (Wp (i + 1) (mN m i)) ∧ StepsI (Wp (i + 1) (mN m i))) {d : List Int} {D : Nat → Int} (hL : LD d D a z) (hD : ∀ k, StepsI (D k)) (zz : Int) :
    ∃ d', LD d' (stepW bM Wp l m i D) a z ∧ cost_counter_way_1.j1 n W zz (i : Int) l m (a : Int) d = some (zz, (i : Int), l, m, (a : Int), d') := by
  obtain ⟨l1, l2⟩ := hF.len
  have hlt := hR.lt
  have hdl := hL.len
  have hat := hL.at_ i hi (by omega)
  have hr := hF.right (show i < l.length by omega)
  have hm := hF.nest.hm
  unfold cost_counter_way_1.j1
  simp only [cut_ix hi (show i < 1000000 by omega), Int.toNat_natCast, next_ix (show i < 1000000 by omega), if_pos (in_ix (show i < l.length by omega)), if_pos (in_ix (show i < m.length by omega)), if_pos (in_ix (show i - a < d.length by omega)), cut_ix (show a ≤ i + 1 by omega) (show i + 1 < 1000000 by omega), hat]
  by_cases hn : D i = -1
  · refine ⟨d, ?_, ?_⟩
    · unfold stepW
      rw [if_pos hn]
      exact hL
    · rw [if_pos (by simpa only [beq_iff_eq] using hn)]
  · rw [if_neg (by simpa only [beq_iff_eq] using hn)]
    have hDi : 0 ≤ D i ∧ D i ≤ 1048577 := by
      rcases hD i with h1 | h1
      · exact absurd h1 hn
      · exact h1
    by_cases h21 : (l.getD i (0, 0, 0)).1 = 21
    · rw [if_pos (show ((l.getD i (0, 0, 0)).1 == 21) = true by simpa only [beq_iff_eq] using h21)]
      obtain ⟨j, j1, j2, j3⟩ := hR.loop i hi hi2 (isOpen_iff.2 (.inl h21))
      have hj : mN m i = j := by unfold mN; rw [j1]; rfl
      have hA : 1 ≤ argA l i ∧ argA l i ≤ 1000 := by
        unfold argA
        generalize l.getD i (0, 0, 0) = x at *
        obtain ⟨o, A, B⟩ := x
        simp only at h21
        subst h21
        exact right21 hr
      obtain ⟨w1, w2⟩ := hW h21
      have hc : costI Wp l m i = loopI (Wp (i + 1) (mN m i)) (argA l i) := by unfold costI; rw [if_pos h21]
      have hlo := loopI_ok w2 hA
      rw [cost_counter_loop_1_is n W (by omega) hm (by omega) (by rw [hj]; exact j1) w1 w2 hA, Option.bind_some, ← hc]
      rw [← hc] at hlo
      rw [costadd_is n (by omega) hDi.2 (by omega) hlo.2, Option.bind_some]
      simp only [j1, next_ix (show j < 1000000 by omega), cut_ix (show a ≤ j + 1 by omega) (show j + 1 < 1000000 by omega), Int.toNat_natCast]
      refine ⟨_, ?_, sect_hand n (show j + 1 - a < d.length by omega) (addI (D i) (costI Wp l m i)) fun d' => some (zz, (i : Int), l, m, (a : Int), d')⟩
      have := hL.put bM (show a ≤ j + 1 by omega) (show j + 1 ≤ z by omega) (addI (D i) (costI Wp l m i))
      unfold stepW hopsI
      rw [if_neg hn, if_pos h21, hj]
      exact this
    · rw [if_neg (show ¬ ((l.getD i (0, 0, 0)).1 == 21) = true by simpa only [beq_iff_eq] using h21)]
      have hc : costI Wp l m i = 1 := by unfold costI; rw [if_neg h21]
      rw [costadd_is n (by omega) hDi.2 (by decide) (by decide)]
      simp only [Option.bind_some]
      by_cases h19 : (l.getD i (0, 0, 0)).1 = 19
      · rw [if_pos (show ((l.getD i (0, 0, 0)).1 == 19) = true by simpa only [beq_iff_eq] using h19)]
        have hjt := hR.jump i hi hi2 (.inl h19)
        have hji : i < jumpTo l i := by unfold jumpTo; omega
        simp only [jump_ix (show l.length < 1000000 by omega) (show i < l.length by omega) hr (.inl h19), cut_ix (show a ≤ jumpTo l i by omega) (show jumpTo l i < 1000000 by omega), Int.toNat_natCast]
        refine ⟨_, ?_, sect_hand n (show jumpTo l i - a < d.length by omega) (addI (D i) 1) fun d' => some (zz, (i : Int), l, m, (a : Int), d')⟩
        have := hL.put bM (show a ≤ jumpTo l i by omega) hjt (addI (D i) 1)
        unfold stepW hopsI
        rw [if_neg hn, if_neg h21, if_pos h19, hc]
        exact this
      · rw [if_neg (show ¬ ((l.getD i (0, 0, 0)).1 == 19) = true by simpa only [beq_iff_eq] using h19)]
        by_cases h20 : (l.getD i (0, 0, 0)).1 = 20
        · rw [if_pos (show ((l.getD i (0, 0, 0)).1 == 20) = true by simpa only [beq_iff_eq] using h20)]
          have hjt := hR.jump i hi hi2 (.inr h20)
          have hji : i < jumpTo l i := by unfold jumpTo; omega
          simp only [jump_ix (show l.length < 1000000 by omega) (show i < l.length by omega) hr (.inr h20), cut_ix (show a ≤ jumpTo l i by omega) (show jumpTo l i < 1000000 by omega), Int.toNat_natCast]
          have h1 := hL.put bM (show a ≤ jumpTo l i by omega) hjt (addI (D i) 1)
          have h2 := h1.put bM (show a ≤ i + 1 by omega) (show i + 1 ≤ z by omega) (addI (D i) 1)
          refine ⟨_, ?_, (sect_hand n (show jumpTo l i - a < d.length by omega) (addI (D i) 1) fun d1 => (if (decide (0 ≤ ((i + 1 - a : Nat) : Int)) && decide (((i + 1 - a : Nat) : Int) < (d1.length : Int))) = true then (if (d1.getD (i + 1 - a) 0 != (-1)) = true then ((cost_Sections_1.f n (d1.getD (i + 1 - a) 0) (addI (D i) 1)).bind fun y => if (decide (0 ≤ ((i + 1 - a : Nat) : Int)) && decide (((i + 1 - a : Nat) : Int) < (d1.length : Int))) = true then some (zz, (i : Int), l, m, (a : Int), d1.set (i + 1 - a) y) else none) else (if (decide (0 ≤ ((i + 1 - a : Nat) : Int)) && decide (((i + 1 - a : Nat) : Int) < (d1.length : Int))) = true then some (zz, (i : Int), l, m, (a : Int), d1.set (i + 1 - a) (addI (D i) 1)) else none)) else none)).trans (sect_hand n (by rw [List.length_set]; omega) (addI (D i) 1) fun d' => some (zz, (i : Int), l, m, (a : Int), d'))⟩
          unfold stepW hopsI
          rw [if_neg hn, if_neg h21, if_neg h19, if_pos h20, hc]
          exact h2
        · rw [if_neg (show ¬ ((l.getD i (0, 0, 0)).1 == 20) = true by simpa only [beq_iff_eq] using h20)]
          refine ⟨_, ?_, sect_hand n (show i + 1 - a < d.length by omega) (addI (D i) 1) fun d' => some (zz, (i : Int), l, m, (a : Int), d')⟩
          have := hL.put bM (show a ≤ i + 1 by omega) (show i + 1 ≤ z by omega) (addI (D i) 1)
          unfold stepW hopsI
          rw [if_neg hn, if_neg h21, if_neg h19, if_neg h20, hc]
          exact this
end Go.Proofs.Dk

/- Plain: the steps of ways, by the program, on. -/
namespace Go.Proofs.Dk
open Go
set_option maxRecDepth 100000
set_option linter.unusedVariables false
set_option linter.unusedSimpArgs false
def fillI (d : List Int) : Nat → Nat → List Int
  | 0, _ => d
  | r + 1, k => fillI (d.set (k + 1) (-1)) r (k + 1)
theorem fill_len : ∀ (r k : Nat) {d : List Int}, (fillI d r k).length = d.length
  | 0, k, d => rfl
  | r + 1, k, d => (fill_len r (k + 1)).trans (List.length_set ..)
theorem fill_at : ∀ (r k : Nat) {d : List Int} (j : Nat), k + r < d.length → (fillI d r k).getD j 0 = if k < j ∧ j ≤ k + r then -1 else d.getD j 0
  | 0, k, d, j, h => by rw [if_neg (by omega)]; rfl
  | r + 1, k, d, j, h => by
    rw [show fillI d (r + 1) k = fillI (d.set (k + 1) (-1)) r (k + 1) from rfl, fill_at r (k + 1) j (by rw [List.length_set]; omega), getD_set (by omega)]
    by_cases h1 : k + 1 < j ∧ j ≤ k + 1 + r
    · rw [if_pos h1, if_pos (by omega)]
    · rw [if_neg h1]
      by_cases h2 : j = k + 1
      · rw [if_pos h2, if_pos (by omega)]
      · rw [if_neg h2, if_neg (by omega)]
theorem fill_start {a z : Nat} (h : a ≤ z) : LD (fillI (List.replicate (z - a + 1) 0) (z - a) 0) (startW a) a z := by
  refine ⟨by rw [fill_len, List.length_replicate], fun k h1 h2 => ?_⟩
  rw [fill_at _ _ _ (by rw [List.length_replicate]; omega)]
  unfold startW
  by_cases e : k = a
  · subst e
    rw [if_neg (by omega), if_pos rfl, Nat.sub_self]
    rfl
  · rw [if_pos (by omega), if_neg e]
theorem isub_ix {a z : Nat} (h : a ≤ z) (hz : z < 1000000) : IntKind.wrap .i64 (IntKind.wrap .i64 ((z : Int) - (a : Int)) + 1) = ((z - a + 1 : Nat) : Int) := by
  rw [cut_ix h hz, next_ix (by omega)]

theorem most_fill (n : Nat) (W : ((((List (Int × (Int × Int))) × (List Int)) × Int × Int × Unit) × Unit) → Option Int) {l : List Ins} {m : List Int} {zz aa : Int} {c : Nat} (hc : c < 1000000) : ∀ (f k : Nat) {d : List Int}, d.length = c + 1 → k ≤ c → c < f + k →
    it (fun F (x : Int × Int × Int × (List (Int × (Int × Int))) × (List Int) × Int × (List Int)) => cost_counter_way_most.b0 n W F x.1 x.2.1 x.2.2.1 x.2.2.2.1 x.2.2.2.2.1 x.2.2.2.2.2.1 x.2.2.2.2.2.2) f (zz, (c : Int), (k : Int), l, m, aa, d) = some (zz, l, m, aa, fillI d (c - k) k)
  | 0, k, d, hd, hk, hf => by omega
  | f + 1, k, d, hd, hk, hf => by
    have ih := fun {d : List Int} => most_fill n W (l := l) (m := m) (zz := zz) (aa := aa) hc f (k + 1) (d := d)
    show cost_counter_way_most.b0 n W (it _ f) zz (c : Int) (k : Int) l m aa d = _
    generalize it (fun F (x : Int × Int × Int × (List (Int × (Int × Int))) × (List Int) × Int × (List Int)) => cost_counter_way_most.b0 n W F x.1 x.2.1 x.2.2.1 x.2.2.2.1 x.2.2.2.2.1 x.2.2.2.2.2.1 x.2.2.2.2.2.2) f = F at ih ⊢
    unfold cost_counter_way_most.b0
    rcases Nat.lt_or_ge k c with hlt | hge
    · rw [if_pos (decide_eq_true (by omega)), next_ix (by omega), if_pos (in_ix (by omega)), Int.toNat_natCast, ih (by rw [List.length_set, hd]) (by omega) (by omega), show c - k = (c - (k + 1)) + 1 by omega]
      rfl
    · have : k = c := by omega
      subst this
      rw [if_neg (by simp), Nat.sub_self]
      rfl
theorem most_run (n : Nat) (W : ((((List (Int × (Int × Int))) × (List Int)) × Int × Int × Unit) × Unit) → Option Int) {l : List Ins} {m h : List Int} (hF : Fine l m h) {Wp : Nat → Nat → Int} {a z : Nat} (hR : Reg l m a z) (hW : ∀ i, a ≤ i → i < z → opAt l i = 21 → W (((l, m), ((i + 1 : Nat) : Int), ((mN m i : Nat) : Int), ()), ()) = some (Wp (i + 1) (mN m i)) ∧ StepsI (Wp (i + 1) (mN m i))) : ∀ (f i : Nat) {d : List Int} {D : Nat → Int}, LD d D a z → (∀ k, StepsI (D k)) → a ≤ i → i ≤ z → z < f + i → ∃ d', LD d' (runW bM Wp l m (z - i) i D) a z ∧
    it (fun F (x : Int × Int × (List (Int × (Int × Int))) × (List Int) × Int × (List Int)) => cost_counter_way_most.b2 n W F x.1 x.2.1 x.2.2.1 x.2.2.2.1 x.2.2.2.2.1 x.2.2.2.2.2) f ((z : Int), (i : Int), l, m, (a : Int), d) = some ((z : Int), l, m, (a : Int), d')
  | 0, i, d, D, hL, hD, h1, h2, hf => by omega
  | f + 1, i, d, D, hL, hD, h1, h2, hf => by
    have ih := fun {d : List Int} {D : Nat → Int} => most_run n W hF hR hW f (i + 1) (d := d) (D := D)
    show ∃ d', _ ∧ cost_counter_way_most.b2 n W (it _ f) (z : Int) (i : Int) l m (a : Int) d = _
    generalize it (fun F (x : Int × Int × (List (Int × (Int × Int))) × (List Int) × Int × (List Int)) => cost_counter_way_most.b2 n W F x.1 x.2.1 x.2.2.1 x.2.2.2.1 x.2.2.2.2.1 x.2.2.2.2.2) f = F at ih ⊢
    obtain ⟨l1, l2⟩ := hF.len
    have hlt := hR.lt
    unfold cost_counter_way_most.b2
    rcases Nat.lt_or_ge i z with hiz | hge
    · obtain ⟨d1, k1, k2⟩ := most_j1 n W hF hR h1 hiz (hW i h1 hiz) hL hD (z : Int)
      rw [if_pos (decide_eq_true (by omega)), k2, Option.bind_some]
      simp only
      rw [next_ix (by omega), show z - i = (z - (i + 1)) + 1 by omega]
      exact ih k1 (stepW_ok bM_bet hD (hF.right (by omega)) fun h => (hW i h1 hiz h).2) (by omega) (by omega) (by omega)
    · have : i = z := by omega
      subst this
      rw [if_neg (by simp), Nat.sub_self]
      exact ⟨d, hL, rfl⟩
theorem most_s (n : Nat) (W : ((((List (Int × (Int × Int))) × (List Int)) × Int × Int × Unit) × Unit) → Option Int) {l : List Ins} {m h : List Int} (hF : Fine l m h) (hn : l.length < n) {Wp : Nat → Nat → Int} {a z : Nat} (hR : Reg l m a z) (hW : ∀ i, a ≤ i → i < z → opAt l i = 21 → W (((l, m), ((i + 1 : Nat) : Int), ((mN m i : Nat) : Int), ()), ()) = some (Wp (i + 1) (mN m i)) ∧ StepsI (Wp (i + 1) (mN m i))) :
    cost_counter_way_most.s n W (l, m) (a : Int) (z : Int) = some (runW bM Wp l m (z - a) a (startW a) z) := by
  obtain ⟨l1, l2⟩ := hF.len
  have hle := hR.le
  have hlt := hR.lt
  unfold cost_counter_way_most.s cost_counter_way_most.b0.l cost_counter_way_most.b2.l
  have c1 : (decide (0 ≤ ((z - a + 1 : Nat) : Int)) && (((z - a + 1 : Nat) : Int) == ((z - a + 1 : Nat) : Int)) && decide (((z - a + 1 : Nat) : Int) * (8 : Int) ≤ 140737488355328) && decide (1 ≤ 8)) = true := by simp; omega
  have c2 : (decide (0 ≤ 1) && decide (1 ≤ ((z - a + 1 : Nat) : Int))) = true := by simp; omega
  simp only [isub_ix hle (show z < 1000000 by omega), Int.toNat_natCast, List.length_replicate, Nat.add_sub_cancel]
  have h0 := most_fill n W (l := l) (m := m) (zz := (z : Int)) (aa := (a : Int)) (c := z - a) (by omega) n 0 (d := List.replicate (z - a + 1) 0) (by rw [List.length_replicate]) (Nat.zero_le _) (by omega)
  rw [show ((0 : Nat) : Int) = 0 from rfl, Nat.sub_zero] at h0
  obtain ⟨d', k1, k2⟩ := most_run n W hF hR hW n a (fill_start hle) (startW_ok a) (Nat.le_refl _) hle (by omega)
  rw [if_pos c1, if_pos c2, h0, Option.bind_some]
  simp only
  rw [k2, Option.bind_some]
  simp only [cut_ix hle (show z < 1000000 by omega), Int.toNat_natCast]
  rw [if_pos (in_ix (by rw [k1.len]; omega)), k1.at_ z hle (Nat.le_refl _)]
theorem most_it (n : Nat) {l : List Ins} {m h : List Int} (hF : Fine l m h) (hn : l.length < n) : ∀ (g : Nat) {a z : Nat}, Reg l m a z → z - a < g →
    it (fun (W : ((((List (Int × (Int × Int))) × (List Int)) × Int × Int × Unit) × Unit) → Option Int) x => cost_counter_way_most.s n W x.1.1 x.1.2.1 x.1.2.2.1) g (((l, m), (a : Int), (z : Int), ()), ()) = some (wayF bM l m g a z)
  | 0, a, z, hR, hg => by omega
  | g + 1, a, z, hR, hg => by
    have hlt := hR.lt
    have ih := fun {a z : Nat} => most_it n hF hn g (a := a) (z := z)
    show cost_counter_way_most.s n (it _ g) (l, m) (a : Int) (z : Int) = _
    refine most_s n _ hF hn hR fun i h1 h2 h3 => ?_
    have ho := isOpen_iff.2 (Or.inl (b := opAt l i = 23) h3)
    have hRi := hF.reg (show i < l.length by omega) ho
    obtain ⟨j, j1, j2, j3⟩ := hR.loop i h1 h2 ho
    have hj : mN m i = j := by unfold mN; rw [j1]; rfl
    exact ⟨ih hRi (by omega), wayF_ok bM_bet hF g hRi⟩
theorem most_is (n : Nat) {l : List Ins} {m h : List Int} (hF : Fine l m h) (hn : l.length < n) {a z : Nat} (hR : Reg l m a z) : cost_counter_way_most.f n (l, m) (a : Int) (z : Int) = some (wayF bM l m n a z) := by
  have := hR.lt
  exact most_it n hF hn n hR (by omega)

theorem least_fill (n : Nat) (W : ((((List (Int × (Int × Int))) × (List Int)) × Int × Int × Unit) × Unit) → Option Int) {l : List Ins} {m : List Int} {zz aa : Int} {c : Nat} (hc : c < 1000000) : ∀ (f k : Nat) {d : List Int}, d.length = c + 1 → k ≤ c → c < f + k →
    it (fun F (x : Int × Int × Int × (List (Int × (Int × Int))) × (List Int) × Int × (List Int)) => cost_counter_way_least.b0 n W F x.1 x.2.1 x.2.2.1 x.2.2.2.1 x.2.2.2.2.1 x.2.2.2.2.2.1 x.2.2.2.2.2.2) f (zz, (c : Int), (k : Int), l, m, aa, d) = some (zz, l, m, aa, fillI d (c - k) k)
  | 0, k, d, hd, hk, hf => by omega
  | f + 1, k, d, hd, hk, hf => by
    have ih := fun {d : List Int} => least_fill n W (l := l) (m := m) (zz := zz) (aa := aa) hc f (k + 1) (d := d)
    show cost_counter_way_least.b0 n W (it _ f) zz (c : Int) (k : Int) l m aa d = _
    generalize it (fun F (x : Int × Int × Int × (List (Int × (Int × Int))) × (List Int) × Int × (List Int)) => cost_counter_way_least.b0 n W F x.1 x.2.1 x.2.2.1 x.2.2.2.1 x.2.2.2.2.1 x.2.2.2.2.2.1 x.2.2.2.2.2.2) f = F at ih ⊢
    unfold cost_counter_way_least.b0
    rcases Nat.lt_or_ge k c with hlt | hge
    · rw [if_pos (decide_eq_true (by omega)), next_ix (by omega), if_pos (in_ix (by omega)), Int.toNat_natCast, ih (by rw [List.length_set, hd]) (by omega) (by omega), show c - k = (c - (k + 1)) + 1 by omega]
      rfl
    · have : k = c := by omega
      subst this
      rw [if_neg (by simp), Nat.sub_self]
      rfl
theorem least_run (n : Nat) (W : ((((List (Int × (Int × Int))) × (List Int)) × Int × Int × Unit) × Unit) → Option Int) {l : List Ins} {m h : List Int} (hF : Fine l m h) {Wp : Nat → Nat → Int} {a z : Nat} (hR : Reg l m a z) (hW : ∀ i, a ≤ i → i < z → opAt l i = 21 → W (((l, m), ((i + 1 : Nat) : Int), ((mN m i : Nat) : Int), ()), ()) = some (Wp (i + 1) (mN m i)) ∧ StepsI (Wp (i + 1) (mN m i))) : ∀ (f i : Nat) {d : List Int} {D : Nat → Int}, LD d D a z → (∀ k, StepsI (D k)) → a ≤ i → i ≤ z → z < f + i → ∃ d', LD d' (runW bL Wp l m (z - i) i D) a z ∧
    it (fun F (x : Int × Int × (List (Int × (Int × Int))) × (List Int) × Int × (List Int)) => cost_counter_way_least.b2 n W F x.1 x.2.1 x.2.2.1 x.2.2.2.1 x.2.2.2.2.1 x.2.2.2.2.2) f ((z : Int), (i : Int), l, m, (a : Int), d) = some ((z : Int), l, m, (a : Int), d')
  | 0, i, d, D, hL, hD, h1, h2, hf => by omega
  | f + 1, i, d, D, hL, hD, h1, h2, hf => by
    have ih := fun {d : List Int} {D : Nat → Int} => least_run n W hF hR hW f (i + 1) (d := d) (D := D)
    show ∃ d', _ ∧ cost_counter_way_least.b2 n W (it _ f) (z : Int) (i : Int) l m (a : Int) d = _
    generalize it (fun F (x : Int × Int × (List (Int × (Int × Int))) × (List Int) × Int × (List Int)) => cost_counter_way_least.b2 n W F x.1 x.2.1 x.2.2.1 x.2.2.2.1 x.2.2.2.2.1 x.2.2.2.2.2) f = F at ih ⊢
    obtain ⟨l1, l2⟩ := hF.len
    have hlt := hR.lt
    unfold cost_counter_way_least.b2
    rcases Nat.lt_or_ge i z with hiz | hge
    · obtain ⟨d1, k1, k2⟩ := least_j1 n W hF hR h1 hiz (hW i h1 hiz) hL hD (z : Int)
      rw [if_pos (decide_eq_true (by omega)), k2, Option.bind_some]
      simp only
      rw [next_ix (by omega), show z - i = (z - (i + 1)) + 1 by omega]
      exact ih k1 (stepW_ok bL_bet hD (hF.right (by omega)) fun h => (hW i h1 hiz h).2) (by omega) (by omega) (by omega)
    · have : i = z := by omega
      subst this
      rw [if_neg (by simp), Nat.sub_self]
      exact ⟨d, hL, rfl⟩
theorem least_s (n : Nat) (W : ((((List (Int × (Int × Int))) × (List Int)) × Int × Int × Unit) × Unit) → Option Int) {l : List Ins} {m h : List Int} (hF : Fine l m h) (hn : l.length < n) {Wp : Nat → Nat → Int} {a z : Nat} (hR : Reg l m a z) (hW : ∀ i, a ≤ i → i < z → opAt l i = 21 → W (((l, m), ((i + 1 : Nat) : Int), ((mN m i : Nat) : Int), ()), ()) = some (Wp (i + 1) (mN m i)) ∧ StepsI (Wp (i + 1) (mN m i))) :
    cost_counter_way_least.s n W (l, m) (a : Int) (z : Int) = some (runW bL Wp l m (z - a) a (startW a) z) := by
  obtain ⟨l1, l2⟩ := hF.len
  have hle := hR.le
  have hlt := hR.lt
  unfold cost_counter_way_least.s cost_counter_way_least.b0.l cost_counter_way_least.b2.l
  have c1 : (decide (0 ≤ ((z - a + 1 : Nat) : Int)) && (((z - a + 1 : Nat) : Int) == ((z - a + 1 : Nat) : Int)) && decide (((z - a + 1 : Nat) : Int) * (8 : Int) ≤ 140737488355328) && decide (1 ≤ 8)) = true := by simp; omega
  have c2 : (decide (0 ≤ 1) && decide (1 ≤ ((z - a + 1 : Nat) : Int))) = true := by simp; omega
  simp only [isub_ix hle (show z < 1000000 by omega), Int.toNat_natCast, List.length_replicate, Nat.add_sub_cancel]
  have h0 := least_fill n W (l := l) (m := m) (zz := (z : Int)) (aa := (a : Int)) (c := z - a) (by omega) n 0 (d := List.replicate (z - a + 1) 0) (by rw [List.length_replicate]) (Nat.zero_le _) (by omega)
  rw [show ((0 : Nat) : Int) = 0 from rfl, Nat.sub_zero] at h0
  obtain ⟨d', k1, k2⟩ := least_run n W hF hR hW n a (fill_start hle) (startW_ok a) (Nat.le_refl _) hle (by omega)
  rw [if_pos c1, if_pos c2, h0, Option.bind_some]
  simp only
  rw [k2, Option.bind_some]
  simp only [cut_ix hle (show z < 1000000 by omega), Int.toNat_natCast]
  rw [if_pos (in_ix (by rw [k1.len]; omega)), k1.at_ z hle (Nat.le_refl _)]
theorem least_it (n : Nat) {l : List Ins} {m h : List Int} (hF : Fine l m h) (hn : l.length < n) : ∀ (g : Nat) {a z : Nat}, Reg l m a z → z - a < g →
    it (fun (W : ((((List (Int × (Int × Int))) × (List Int)) × Int × Int × Unit) × Unit) → Option Int) x => cost_counter_way_least.s n W x.1.1 x.1.2.1 x.1.2.2.1) g (((l, m), (a : Int), (z : Int), ()), ()) = some (wayF bL l m g a z)
  | 0, a, z, hR, hg => by omega
  | g + 1, a, z, hR, hg => by
    have hlt := hR.lt
    have ih := fun {a z : Nat} => least_it n hF hn g (a := a) (z := z)
    show cost_counter_way_least.s n (it _ g) (l, m) (a : Int) (z : Int) = _
    refine least_s n _ hF hn hR fun i h1 h2 h3 => ?_
    have ho := isOpen_iff.2 (Or.inl (b := opAt l i = 23) h3)
    have hRi := hF.reg (show i < l.length by omega) ho
    obtain ⟨j, j1, j2, j3⟩ := hR.loop i h1 h2 ho
    have hj : mN m i = j := by unfold mN; rw [j1]; rfl
    exact ⟨ih hRi (by omega), wayF_ok bL_bet hF g hRi⟩
theorem least_is (n : Nat) {l : List Ins} {m h : List Int} (hF : Fine l m h) (hn : l.length < n) {a z : Nat} (hR : Reg l m a z) : cost_counter_way_least.f n (l, m) (a : Int) (z : Int) = some (wayF bL l m n a z) := by
  have := hR.lt
  exact least_it n hF hn n hR (by omega)

theorem sect_fill (n : Nat) (W : ((((List (Int × (Int × Int))) × (List Int)) × Int × Int × Unit) × Unit) → Option Int) {l : List Ins} {m : List Int} {zz aa : Int} {c : Nat} (hc : c < 1000000) : ∀ (f k : Nat) {d : List Int}, d.length = c + 1 → k ≤ c → c < f + k →
    it (fun F (x : Int × Int × Int × (List (Int × (Int × Int))) × (List Int) × Int × (List Int)) => cost_counter_way_1.b0 n W F x.1 x.2.1 x.2.2.1 x.2.2.2.1 x.2.2.2.2.1 x.2.2.2.2.2.1 x.2.2.2.2.2.2) f (zz, (c : Int), (k : Int), l, m, aa, d) = some (zz, l, m, aa, fillI d (c - k) k)
  | 0, k, d, hd, hk, hf => by omega
  | f + 1, k, d, hd, hk, hf => by
    have ih := fun {d : List Int} => sect_fill n W (l := l) (m := m) (zz := zz) (aa := aa) hc f (k + 1) (d := d)
    show cost_counter_way_1.b0 n W (it _ f) zz (c : Int) (k : Int) l m aa d = _
    generalize it (fun F (x : Int × Int × Int × (List (Int × (Int × Int))) × (List Int) × Int × (List Int)) => cost_counter_way_1.b0 n W F x.1 x.2.1 x.2.2.1 x.2.2.2.1 x.2.2.2.2.1 x.2.2.2.2.2.1 x.2.2.2.2.2.2) f = F at ih ⊢
    unfold cost_counter_way_1.b0
    rcases Nat.lt_or_ge k c with hlt | hge
    · rw [if_pos (decide_eq_true (by omega)), next_ix (by omega), if_pos (in_ix (by omega)), Int.toNat_natCast, ih (by rw [List.length_set, hd]) (by omega) (by omega), show c - k = (c - (k + 1)) + 1 by omega]
      rfl
    · have : k = c := by omega
      subst this
      rw [if_neg (by simp), Nat.sub_self]
      rfl
theorem sect_run (n : Nat) (W : ((((List (Int × (Int × Int))) × (List Int)) × Int × Int × Unit) × Unit) → Option Int) {l : List Ins} {m h : List Int} (hF : Fine l m h) {Wp : Nat → Nat → Int} {a z : Nat} (hR : Reg l m a z) (hW : ∀ i, a ≤ i → i < z → opAt l i = 21 → W (((l, m), ((i + 1 : Nat) : Int), ((mN m i : Nat) : Int), ()), ()) = some (Wp (i + 1) (mN m i)) ∧ StepsI (Wp (i + 1) (mN m i))) : ∀ (f i : Nat) {d : List Int} {D : Nat → Int}, LD d D a z → (∀ k, StepsI (D k)) → a ≤ i → i ≤ z → z < f + i → ∃ d', LD d' (runW bM Wp l m (z - i) i D) a z ∧
    it (fun F (x : Int × Int × (List (Int × (Int × Int))) × (List Int) × Int × (List Int)) => cost_counter_way_1.b2 n W F x.1 x.2.1 x.2.2.1 x.2.2.2.1 x.2.2.2.2.1 x.2.2.2.2.2) f ((z : Int), (i : Int), l, m, (a : Int), d) = some ((z : Int), l, m, (a : Int), d')
  | 0, i, d, D, hL, hD, h1, h2, hf => by omega
  | f + 1, i, d, D, hL, hD, h1, h2, hf => by
    have ih := fun {d : List Int} {D : Nat → Int} => sect_run n W hF hR hW f (i + 1) (d := d) (D := D)
    show ∃ d', _ ∧ cost_counter_way_1.b2 n W (it _ f) (z : Int) (i : Int) l m (a : Int) d = _
    generalize it (fun F (x : Int × Int × (List (Int × (Int × Int))) × (List Int) × Int × (List Int)) => cost_counter_way_1.b2 n W F x.1 x.2.1 x.2.2.1 x.2.2.2.1 x.2.2.2.2.1 x.2.2.2.2.2) f = F at ih ⊢
    obtain ⟨l1, l2⟩ := hF.len
    have hlt := hR.lt
    unfold cost_counter_way_1.b2
    rcases Nat.lt_or_ge i z with hiz | hge
    · obtain ⟨d1, k1, k2⟩ := sect_j1 n W hF hR h1 hiz (hW i h1 hiz) hL hD (z : Int)
      rw [if_pos (decide_eq_true (by omega)), k2, Option.bind_some]
      simp only
      rw [next_ix (by omega), show z - i = (z - (i + 1)) + 1 by omega]
      exact ih k1 (stepW_ok bM_bet hD (hF.right (by omega)) fun h => (hW i h1 hiz h).2) (by omega) (by omega) (by omega)
    · have : i = z := by omega
      subst this
      rw [if_neg (by simp), Nat.sub_self]
      exact ⟨d, hL, rfl⟩
theorem sect_s (n : Nat) (W : ((((List (Int × (Int × Int))) × (List Int)) × Int × Int × Unit) × Unit) → Option Int) {l : List Ins} {m h : List Int} (hF : Fine l m h) (hn : l.length < n) {Wp : Nat → Nat → Int} {a z : Nat} (hR : Reg l m a z) (hW : ∀ i, a ≤ i → i < z → opAt l i = 21 → W (((l, m), ((i + 1 : Nat) : Int), ((mN m i : Nat) : Int), ()), ()) = some (Wp (i + 1) (mN m i)) ∧ StepsI (Wp (i + 1) (mN m i))) :
    cost_counter_way_1.s n W (l, m) (a : Int) (z : Int) = some (runW bM Wp l m (z - a) a (startW a) z) := by
  obtain ⟨l1, l2⟩ := hF.len
  have hle := hR.le
  have hlt := hR.lt
  unfold cost_counter_way_1.s cost_counter_way_1.b0.l cost_counter_way_1.b2.l
  have c1 : (decide (0 ≤ ((z - a + 1 : Nat) : Int)) && (((z - a + 1 : Nat) : Int) == ((z - a + 1 : Nat) : Int)) && decide (((z - a + 1 : Nat) : Int) * (8 : Int) ≤ 140737488355328) && decide (1 ≤ 8)) = true := by simp; omega
  have c2 : (decide (0 ≤ 1) && decide (1 ≤ ((z - a + 1 : Nat) : Int))) = true := by simp; omega
  simp only [isub_ix hle (show z < 1000000 by omega), Int.toNat_natCast, List.length_replicate, Nat.add_sub_cancel]
  have h0 := sect_fill n W (l := l) (m := m) (zz := (z : Int)) (aa := (a : Int)) (c := z - a) (by omega) n 0 (d := List.replicate (z - a + 1) 0) (by rw [List.length_replicate]) (Nat.zero_le _) (by omega)
  rw [show ((0 : Nat) : Int) = 0 from rfl, Nat.sub_zero] at h0
  obtain ⟨d', k1, k2⟩ := sect_run n W hF hR hW n a (fill_start hle) (startW_ok a) (Nat.le_refl _) hle (by omega)
  rw [if_pos c1, if_pos c2, h0, Option.bind_some]
  simp only
  rw [k2, Option.bind_some]
  simp only [cut_ix hle (show z < 1000000 by omega), Int.toNat_natCast]
  rw [if_pos (in_ix (by rw [k1.len]; omega)), k1.at_ z hle (Nat.le_refl _)]
theorem sect_it (n : Nat) {l : List Ins} {m h : List Int} (hF : Fine l m h) (hn : l.length < n) : ∀ (g : Nat) {a z : Nat}, Reg l m a z → z - a < g →
    it (fun (W : ((((List (Int × (Int × Int))) × (List Int)) × Int × Int × Unit) × Unit) → Option Int) x => cost_counter_way_1.s n W x.1.1 x.1.2.1 x.1.2.2.1) g (((l, m), (a : Int), (z : Int), ()), ()) = some (wayF bM l m g a z)
  | 0, a, z, hR, hg => by omega
  | g + 1, a, z, hR, hg => by
    have hlt := hR.lt
    have ih := fun {a z : Nat} => sect_it n hF hn g (a := a) (z := z)
    show cost_counter_way_1.s n (it _ g) (l, m) (a : Int) (z : Int) = _
    refine sect_s n _ hF hn hR fun i h1 h2 h3 => ?_
    have ho := isOpen_iff.2 (Or.inl (b := opAt l i = 23) h3)
    have hRi := hF.reg (show i < l.length by omega) ho
    obtain ⟨j, j1, j2, j3⟩ := hR.loop i h1 h2 ho
    have hj : mN m i = j := by unfold mN; rw [j1]; rfl
    exact ⟨ih hRi (by omega), wayF_ok bM_bet hF g hRi⟩
theorem sect_is (n : Nat) {l : List Ins} {m h : List Int} (hF : Fine l m h) (hn : l.length < n) {a z : Nat} (hR : Reg l m a z) : cost_counter_way_1.f n (l, m) (a : Int) (z : Int) = some (wayF bM l m n a z) := by
  have := hR.lt
  exact sect_it n hF hn n hR (by omega)
end Go.Proofs.Dk

/- Plain: each instruction can be reached. -/
namespace Go.Proofs.Dk
open Go
set_option maxRecDepth 100000
set_option linter.unusedVariables false
set_option linter.unusedSimpArgs false
theorem least_of {P : Nat → Prop} : ∀ {n : Nat}, P n → ∃ k, k ≤ n ∧ P k ∧ ∀ j, j < k → ¬ P j := by
  intro n
  induction n using Nat.strongRecOn with
  | _ n ih =>
    intro hn
    by_cases h : ∃ j, j < n ∧ P j
    · obtain ⟨j, j1, j2⟩ := h
      obtain ⟨k, k1, k2, k3⟩ := ih j j1 j2
      exact ⟨k, by omega, k2, k3⟩
    · exact ⟨n, Nat.le_refl _, hn, fun j hj hp => h ⟨j, hj, hp⟩⟩
theorem set_true {s : List Bool} {q k : Nat} (h : (s.set q true).getD k false = true) : s.getD k false = true ∨ k = q := by
  by_cases e : k = q
  · exact .inr e
  · refine .inl ?_
    rw [List.getD_eq_getElem?_getD, List.getElem?_set_ne (fun h => e h.symm)] at h
    rw [List.getD_eq_getElem?_getD]
    exact h
theorem hands_some {t : ByteArray} : ∀ (ks : List Nat) {f : Flow} {k : Nat}, (ks.foldl (fun g q => handI q t g) f).2.1.getD k false = true → f.2.1.getD k false = true ∨ k ∈ ks
  | [], f, k, h => .inl h
  | q :: ks, f, k, h => by
    rcases hands_some ks h with h1 | h1
    · rcases set_true h1 with h2 | h2
      · exact .inl h2
      · exact .inr (by rw [h2]; exact List.mem_cons_self)
    · exact .inr (List.mem_cons_of_mem _ h1)
theorem flowStep_some {l : List Ins} {m : List Int} {i : Nat} {f f' : Flow} (hs : flowStep l m i f = .inr f') : f.2.1.getD i false = true ∧ ∀ k, f'.2.1.getD k false = true → f.2.1.getD k false = true ∨ k ∈ nextsI l i := by
  unfold flowStep at hs
  split at hs
  · cases hs
  · rename_i h1
    refine ⟨by simpa using h1, fun k hk => ?_⟩
    split at hs
    · cases hs
    · split at hs
      · cases hs
      · split at hs
        · cases hs
        · cases hs
          exact hands_some _ hk
theorem stacks_reach {l : List Ins} {m : List Int} : ∀ (r i : Nat) {f f' : Flow}, stacksS l m r i f = .inr f' → (∀ k, f.2.1.getD k false = true → k = 0 ∨ ∃ p, p < i ∧ k ∈ nextsI l p) → ∀ k, i ≤ k → k < i + r → k = 0 ∨ ∃ p, p < k ∧ k ∈ nextsI l p
  | 0, i, f, f', hs, hI, k, h1, h2 => by omega
  | r + 1, i, f, f', hs, hI, k, h1, h2 => by
    simp only [stacksS] at hs
    cases hq : flowStep l m i f with
    | inl e => rw [hq] at hs; cases hs
    | inr f1 =>
      rw [hq] at hs
      obtain ⟨a1, a2⟩ := flowStep_some hq
      by_cases e : k = i
      · subst e
        exact hI k a1
      · refine stacks_reach r (i + 1) hs (fun k hk => ?_) k (by omega) (by omega)
        rcases a2 k hk with h3 | h3
        · rcases hI k h3 with h4 | ⟨p, p1, p2⟩
          · exact .inl h4
          · exact .inr ⟨p, by omega, p2⟩
        · exact .inr ⟨i, by omega, h3⟩
def Come (l : List Ins) : Prop := ∀ k, 0 < k → k < l.length → ∃ p, p < k ∧ k ∈ nextsI l p
theorem come_is {l : List Ins} (h : stacksI l = 0) : wholeI l = 0 ∧ Come l := by
  unfold stacksI at h
  split at h
  · rename_i hw
    exact absurd h hw
  · rename_i hw
    have hw0 : wholeI l = 0 := by
      by_cases e : wholeI l = 0
      · exact e
      · exact absurd e hw
    refine ⟨hw0, fun k k1 k2 => ?_⟩
    cases hq : stacksS l (scanI l).1 l.length 0 (flow0 l) with
    | inl e =>
      rw [hq] at h
      simp only at h
      subst h
      exfalso
      have key : ∀ (r i : Nat) {f : Flow}, stacksS l (scanI l).1 r i f ≠ .inl 0 := by
        intro r
        induction r with
        | zero => intro i f h; cases h
        | succ r ih =>
          intro i f h
          simp only [stacksS] at h
          cases hq : flowStep l (scanI l).1 i f with
          | inr f1 => rw [hq] at h; exact ih (i + 1) h
          | inl e =>
            rw [hq] at h
            cases h
            unfold flowStep at hq
            split at hq
            · cases hq
            · split at hq
              · cases hq
              · split at hq
                · cases hq
                · split at hq
                  · rename_i h5
                    exact h5 (Sum.inl.inj hq)
                  · cases hq
      exact key _ _ hq
    | inr f' =>
      have hI : ∀ k, (flow0 l).2.1.getD k false = true → k = 0 ∨ ∃ p, p < 0 ∧ k ∈ nextsI l p := fun k hk => by
        left
        unfold flow0 at hk
        rcases set_true hk with h2 | h2
        · rw [List.getD_eq_getElem?_getD, List.getElem?_replicate] at h2
          split at h2 <;> cases h2
        · exact h2
      rcases stacks_reach l.length 0 hq hI k (Nat.zero_le _) (by omega) with h1 | h1
      · omega
      · exact h1
theorem Fine.jump_enc {l : List Ins} {m h : List Int} (hF : Fine l m h) {i : Nat} (hi : i < l.length) (hj : opAt l i = 19 ∨ opAt l i = 20) (q : Nat) : enc l m q (jumpTo l i) = enc l m q i := by
  obtain ⟨k1, k2⟩ := hF.jump hi hj
  rcases home_cases l m i with hh | ⟨p, hh⟩
  · rw [enc_none hh q, enc_none (k2.trans hh) q]
  · obtain ⟨_, _, x3⟩ := enc_home hF.nest hi hh
    obtain ⟨_, _, y3⟩ := enc_home hF.nest k1 (k2.trans hh)
    rw [x3 q, y3 q]
theorem enc_iff {l : List Ins} {m : List Int} {q k j : Nat} (ho : isOpen l q = true) (hj : m.getD q 0 = (j : Int)) : enc l m q k = true ↔ q < k ∧ k ≤ j := by
  unfold enc
  rw [ho, hj]
  simp
def RIn (l : List Ins) (m : List Int) (a z k : Nat) : Prop := a ≤ k ∧ k ≤ z ∧ ∀ q, a ≤ q → q < k → opAt l q = 21 → mN m q < k
structure Way (l : List Ins) (m : List Int) (a z : Nat) : Prop where
  reg : Reg l m a z
  out : a = 0 ∨ ∃ p, a = p + 1 ∧ isOpen l p = true ∧ m.getD p 0 = (z : Int)
theorem Fine.way {l : List Ins} {m h : List Int} (hF : Fine l m h) {p : Nat} (hp : p < l.length) (ho : isOpen l p = true) : Way l m (p + 1) (mN m p) := by
  refine ⟨hF.reg hp ho, .inr ⟨p, rfl, ho, ?_⟩⟩
  obtain ⟨j, j1, _⟩ := hF.nest.open_ p hp ho
  unfold mN
  rw [j1]
  rfl
theorem Fine.wayAll {l : List Ins} {m h : List Int} (hF : Fine l m h) : Way l m 0 (l.length - 1) := ⟨hF.all, .inl rfl⟩
theorem pred_in {l : List Ins} {m h : List Int} (hF : Fine l m h) (hS : Come l) {a z : Nat} (hR : Way l m a z) {k : Nat} (hk : RIn l m a z k) (hak : a < k) : ∃ p, RIn l m a z p ∧ p < k ∧ k ∈ hopsI l m p := by
  obtain ⟨k1, k2, k3⟩ := hk
  have hlt := hR.reg.lt
  obtain ⟨p, p1, p2⟩ := hS k (by omega) (by omega)
  have hpl : p < l.length := by omega
  have hcase : k = p + 1 ∨ ((opAt l p = 19 ∨ opAt l p = 20) ∧ k = jumpTo l p) := by
    unfold nextsI at p2
    split at p2
    · rename_i h1
      rw [List.mem_singleton] at p2
      exact .inr ⟨.inl h1, p2⟩
    · split at p2
      · rename_i h1 h2
        rw [List.mem_cons, List.mem_singleton] at p2
        rcases p2 with h3 | h3
        · exact .inl h3
        · exact .inr ⟨.inr h2, h3⟩
      · split at p2
        · cases p2
        · rw [List.mem_singleton] at p2
          exact .inl p2
  have hap : a ≤ p := by
    rcases hcase with h1 | ⟨h1, h2⟩
    · omega
    · rcases hR.out with h3 | ⟨o, o1, o2, o3⟩
      · omega
      · rcases Nat.lt_or_ge p a with h4 | h4
        · exfalso
          have e1 : enc l m o k = true := (enc_iff o2 o3).2 ⟨by omega, k2⟩
          rw [h2, hF.jump_enc hpl h1, enc_iff o2 o3] at e1
          omega
        · exact h4
  by_cases hin : RIn l m a z p
  · refine ⟨p, hin, p1, ?_⟩
    unfold nextsI at p2
    unfold hopsI
    by_cases h21 : opAt l p = 21
    · exfalso
      have hkp : k = p + 1 := by
        rcases hcase with h1 | ⟨h1, _⟩
        · exact h1
        · omega
      have := k3 p hap (by omega) h21
      obtain ⟨j, j1, j2, j3⟩ := hF.nest.open_ p hpl (isOpen_iff.2 (.inl h21))
      unfold mN at this
      rw [j1] at this
      have e : ((j : Int)).toNat = j := rfl
      omega
    · rw [if_neg h21]
      by_cases h19 : opAt l p = 19
      · rw [if_pos h19] at p2 ⊢
        exact p2
      · rw [if_neg h19] at p2 ⊢
        by_cases h20 : opAt l p = 20
        · rw [if_pos h20] at p2 ⊢
          rw [List.mem_cons, List.mem_singleton] at p2 ⊢
          exact p2.symm
        · rw [if_neg h20] at p2 ⊢
          split at p2
          · cases p2
          · exact p2
  · have : ∃ q, a ≤ q ∧ q < p ∧ opAt l q = 21 ∧ p ≤ mN m q := by
      apply Classical.byContradiction
      intro hno
      refine hin ⟨hap, by omega, fun q q1 q2 q3 => ?_⟩
      rcases Nat.lt_or_ge (mN m q) p with h1 | h1
      · exact h1
      · exact absurd ⟨q, q1, q2, q3, h1⟩ hno
    obtain ⟨q0, hq0⟩ := this
    obtain ⟨q, q1, ⟨q2, q3, q4, q5⟩, q6⟩ := least_of (P := fun q => a ≤ q ∧ q < p ∧ opAt l q = 21 ∧ p ≤ mN m q) hq0
    have hqo : isOpen l q = true := isOpen_iff.2 (.inl q4)
    obtain ⟨j, j1, j2, j3⟩ := hF.nest.open_ q (by omega) hqo
    have hj : mN m q = j := by unfold mN; rw [j1]; rfl
    rw [hj] at q5
    have hqk := k3 q q2 (by omega) q4
    rw [hj] at hqk
    refine ⟨q, ⟨q2, by omega, fun q' a1 a2 a3 => ?_⟩, by omega, ?_⟩
    · rcases Nat.lt_or_ge (mN m q') q with h1 | h1
      · exact h1
      · exfalso
        have ho' : isOpen l q' = true := isOpen_iff.2 (.inl a3)
        obtain ⟨j', e1, e2, e3, e4, e5⟩ := hF.closed.op_ q' (by omega) ho'
        have hj' : mN m q' = j' := by unfold mN; rw [e1]; rfl
        rw [hj'] at h1
        have hne : j' ≠ q := fun e => by
          subst e
          rw [close_not e4] at hqo
          cases hqo
        obtain ⟨x, x1, x2⟩ := hF.nest.cross q' q j' a2 (by omega) (by omega) ho' hqo e1
        have : (x : Int) = (j : Int) := x1.symm.trans j1
        exact q6 q' a2 ⟨a1, by omega, a3, by rw [hj']; omega⟩
    · rcases hcase with h1 | ⟨h1, h2⟩
      · unfold hopsI
        rw [if_pos q4, hj, List.mem_singleton]
        omega
      · exfalso
        have e1 : enc l m q p = true := (enc_iff hqo j1).2 ⟨q3, q5⟩
        rw [← hF.jump_enc hpl h1, ← h2, enc_iff hqo j1] at e1
        omega
theorem puts_some {b : Int → Int → Int} (hb : Bet b) {v : Int} (hv : v ≠ -1) : ∀ (ks : List Nat) {D : Nat → Int} {k : Nat}, D k ≠ -1 ∨ k ∈ ks → ks.foldl (fun g k => putI b g k v) D k ≠ -1
  | [], D, k, h => h.elim id fun h => by cases h
  | q :: ks, D, k, h => by
    refine puts_some hb hv ks (D := putI b D q v) ?_
    unfold putI
    by_cases e : k = q
    · left
      rw [if_pos e]
      split
      · exact hv
      · rename_i h1
        rcases hb (D q) v with h2 | h2 <;> rw [h2]
        · exact h1
        · exact hv
    · rw [if_neg e]
      rcases h with h | h
      · exact .inl h
      · rcases List.mem_cons.1 h with h | h
        · exact absurd h e
        · exact .inr h
theorem run_reach {b : Int → Int → Int} (hb : Bet b) {W : Nat → Nat → Int} {l : List Ins} {m h : List Int} (hF : Fine l m h) (hS : Come l) {a z : Nat} (hR : Way l m a z) (hW : ∀ i, a ≤ i → i < z → opAt l i = 21 → StepsI (W (i + 1) (mN m i))) : ∀ (r i : Nat) {D : Nat → Int}, (∀ k, StepsI (D k)) → a ≤ i → i + r = z → (∀ k, RIn l m a z k → k = a ∨ (∃ p, RIn l m a z p ∧ p < i ∧ k ∈ hopsI l m p) → D k ≠ -1) → ∀ k, RIn l m a z k → runW b W l m r i D k ≠ -1
  | 0, i, D, hD, hi, hz, hI, k, hk => by
    refine hI k hk ?_
    by_cases e : k = a
    · exact .inl e
    · obtain ⟨p, p1, p2, p3⟩ := pred_in hF hS hR hk (by have := hk.1; omega)
      exact .inr ⟨p, p1, by have := hk.2.1; omega, p3⟩
  | r + 1, i, D, hD, hi, hz, hI, k, hk => by
    have hlt := hR.reg.lt
    have hWi := hW i hi (by omega)
    have hr := hF.right (show i < l.length by omega)
    refine run_reach hb hF hS hR hW r (i + 1) (stepW_ok hb hD hr hWi) (by omega) (by omega) (fun j hj hp => ?_) k hk
    have old : D j ≠ -1 → stepW b W l m i D j ≠ -1 := fun h => by
      unfold stepW
      split
      · exact h
      · rename_i h1
        have hDi : 0 ≤ D i := by
          rcases hD i with h2 | h2
          · exact absurd h2 h1
          · exact h2.1
        have := addI_ok hDi (costI_ok hr hWi).1
        exact puts_some hb (by omega) _ (.inl h)
    rcases hp with h1 | ⟨p, p1, p2, p3⟩
    · exact old (hI j hj (.inl h1))
    · by_cases e : p = i
      · subst e
        have hDp : D p ≠ -1 := by
          refine hI p p1 ?_
          by_cases e : p = a
          · exact .inl e
          · obtain ⟨p', a1, a2, a3⟩ := pred_in hF hS hR p1 (by omega)
            exact .inr ⟨p', a1, a2, a3⟩
        have hDp0 : 0 ≤ D p := by
          rcases hD p with h2 | h2
          · exact absurd h2 hDp
          · exact h2.1
        unfold stepW
        rw [if_neg hDp]
        have := addI_ok hDp0 (costI_ok hr hWi).1
        exact puts_some hb (by omega) _ (.inr p3)
      · exact old (hI j hj (.inr ⟨p, p1, by omega, p3⟩))
theorem Way.end_in {l : List Ins} {m h : List Int} {a z : Nat} (hR : Way l m a z) : RIn l m a z z := by
  refine ⟨hR.reg.le, Nat.le_refl _, fun q h1 h2 h3 => ?_⟩
  obtain ⟨j, j1, j2, j3⟩ := hR.reg.loop q h1 h2 (isOpen_iff.2 (.inl h3))
  unfold mN
  rw [j1]
  exact j3
theorem way_reach {b : Int → Int → Int} (hb : Bet b) {l : List Ins} {m h : List Int} (hF : Fine l m h) (hS : Come l) (f : Nat) {a z : Nat} (hR : Way l m a z) : 0 ≤ wayF b l m f a z ∧ wayF b l m f a z ≤ 1048577 := by
  have h0 := wayF_ok hb hF f hR.reg
  have hlt := hR.reg.lt
  have hle := hR.reg.le
  cases f with
  | zero => exact ⟨Int.le_refl _, by show (0 : Int) ≤ 1048577; decide⟩
  | succ f =>
    have h1 : wayF b l m (f + 1) a z ≠ -1 := by
      refine run_reach hb hF hS hR (fun i i1 i2 i3 => wayF_ok hb hF f (hF.reg (by omega) (isOpen_iff.2 (.inl i3)))) (z - a) a (startW_ok a) (Nat.le_refl _) (by omega) (fun k hk hp => ?_) z (Way.end_in (h := h) hR)
      rcases hp with e | ⟨p, p1, p2, _⟩
      · subst e
        unfold startW
        rw [if_pos rfl]
        decide
      · have := p1.1
        omega
    rcases h0 with h2 | h2
    · exact absurd h2 h1
    · exact h2
end Go.Proofs.Dk

/- Plain: the loops and locks around a place, from step to step. -/
namespace Go.Proofs.Dk
open Go
set_option maxRecDepth 100000
set_option linter.unusedVariables false
set_option linter.unusedSimpArgs false
theorem bool_iff {a b : Bool} (h : a = true ↔ b = true) : a = b := Bool.eq_iff_iff.2 h
theorem enc_open {l : List Ins} {m : List Int} {k i : Nat} (h : enc l m k i = true) : k < i ∧ isOpen l k = true := by
  unfold enc at h
  rw [Bool.and_eq_true, decide_eq_true_eq, Bool.and_eq_true] at h
  exact ⟨h.1, h.2.1⟩
theorem open_lt {l : List Ins} {k : Nat} (h : isOpen l k = true) : k < l.length := by
  rcases Nat.lt_or_ge k l.length with h1 | h1
  · exact h1
  · unfold isOpen at h
    rw [List.getD_eq_getElem?_getD, List.getElem?_eq_none h1] at h
    cases h
theorem isOpen_op {l : List Ins} {i : Nat} (h : opAt l i = 21 ∨ opAt l i = 23) : isOpen l i = true := isOpen_iff.2 h
theorem enc_succ {l : List Ins} {m h : List Int} (hF : Fine l m h) {i : Nat} (hi : i < l.length) (h22 : opAt l i ≠ 22) (h24 : opAt l i ≠ 24) (k : Nat) : enc l m k (i + 1) = ((decide (k = i) && isOpen l i) || enc l m k i) := by
  apply bool_iff
  by_cases ho : isOpen l k = true
  · obtain ⟨j, j1, j2, j3⟩ := hF.nest.open_ k (open_lt ho) ho
    obtain ⟨j', e1, e2, e3, e4, e5⟩ := hF.closed.op_ k (open_lt ho) ho
    have hj : j = j' := by rw [j1] at e1; omega
    subst hj
    have hji : j ≠ i := fun hc => by
      subst hc
      have := ends_op (l.getD k (0, 0, 0))
      rw [← e4] at this
      exact this.elim h22 h24
    rw [enc_iff ho j1, Bool.or_eq_true, Bool.and_eq_true, decide_eq_true_eq, enc_iff ho j1]
    constructor
    · rintro ⟨h1, h2⟩
      by_cases hk : k = i
      · exact .inl ⟨hk, hk ▸ ho⟩
      · exact .inr ⟨by omega, by omega⟩
    · rintro (⟨h1, h2⟩ | ⟨h1, h2⟩)
      · subst h1; exact ⟨by omega, by omega⟩
      · exact ⟨by omega, by omega⟩
  · rw [Bool.or_eq_true, Bool.and_eq_true, decide_eq_true_eq]
    constructor
    · intro h; exact absurd (enc_open h).2 ho
    · rintro (⟨h1, h2⟩ | h)
      · subst h1; exact absurd h2 ho
      · exact absurd (enc_open h).2 ho
theorem enc_close {l : List Ins} {m h : List Int} (hF : Fine l m h) {i : Nat} (hi : i < l.length) (hc : opAt l i = 22 ∨ opAt l i = 24) : ∃ k0 : Nat, m.getD i 0 = (k0 : Int) ∧ k0 < i ∧ isOpen l k0 = true ∧ m.getD k0 0 = (i : Int) ∧ l.getD i (0, 0, 0) = ends (l.getD k0 (0, 0, 0)) ∧
    (∀ k, enc l m k i = (decide (k = k0) || enc l m k k0)) ∧ (∀ k, enc l m k (i + 1) = enc l m k k0) := by
  obtain ⟨k0, a1, a2, a3, a4, a5⟩ := hF.closed.cl i hi hc
  have key : ∀ k, isOpen l k = true → ∀ j : Nat, m.getD k 0 = (j : Int) → ((k < i ∧ i ≤ j) ↔ (k = k0 ∨ (k < k0 ∧ k0 ≤ j))) ∧ ((k < i + 1 ∧ i + 1 ≤ j) ↔ (k < k0 ∧ k0 ≤ j)) := by
    intro k ho j j1
    have hin : isOpen l i = false := hF.nest.clos k0 i (by omega) a3 a4
    have hki : k ≠ i := fun hc => by subst hc; rw [ho] at hin; cases hin
    have c1 : k0 < k → k < i → j < i := fun h1 h2 => by
      obtain ⟨q, q1, q2⟩ := hF.nest.cross k0 k i h1 h2 (by omega) a3 ho a4
      rw [j1] at q1; omega
    have c2 : k < k0 → k0 < j → i < j := fun h1 h2 => by
      obtain ⟨q, q1, q2⟩ := hF.nest.cross k k0 j h1 h2 (open_lt ho) ho a3 j1
      rw [a4] at q1; omega
    have c3 : j ≠ k0 := fun hc => by
      have := hF.nest.clos k j (open_lt ho) ho j1
      rw [hc, a3] at this; cases this
    have c4 : k = k0 → j = i := fun hc => by subst hc; rw [a4] at j1; omega
    refine ⟨⟨fun ⟨h1, h2⟩ => ?_, fun h => ?_⟩, ⟨fun ⟨h1, h2⟩ => ?_, fun ⟨h1, h2⟩ => ?_⟩⟩
    · rcases Nat.lt_trichotomy k k0 with h3 | h3 | h3
      · exact .inr ⟨h3, by omega⟩
      · exact .inl h3
      · have := c1 h3 h1; omega
    · rcases h with h3 | ⟨h3, h4⟩
      · have := c4 h3; exact ⟨by omega, by omega⟩
      · have := c2 h3 (by omega); exact ⟨by omega, by omega⟩
    · rcases Nat.lt_trichotomy k k0 with h3 | h3 | h3
      · exact ⟨h3, by omega⟩
      · have := c4 h3; omega
      · have := c1 h3 (by omega); omega
    · have := c2 h1 (by omega); exact ⟨by omega, by omega⟩
  refine ⟨k0, a1, a2, a3, a4, a5, fun k => bool_iff ?_, fun k => bool_iff ?_⟩
  · by_cases ho : isOpen l k = true
    · obtain ⟨j, j1, j2, j3⟩ := hF.nest.open_ k (open_lt ho) ho
      rw [enc_iff ho j1, Bool.or_eq_true, decide_eq_true_eq, enc_iff ho j1]
      exact (key k ho j j1).1
    · rw [Bool.or_eq_true, decide_eq_true_eq]
      exact ⟨fun h => absurd (enc_open h).2 ho, fun h => h.elim (fun h => absurd (h ▸ a3) ho) (fun h => absurd (enc_open h).2 ho)⟩
  · by_cases ho : isOpen l k = true
    · obtain ⟨j, j1, j2, j3⟩ := hF.nest.open_ k (open_lt ho) ho
      rw [enc_iff ho j1, enc_iff ho j1]
      exact (key k ho j j1).2
    · exact ⟨fun h => absurd (enc_open h).2 ho, fun h => absurd (enc_open h).2 ho⟩
theorem filter_range {P : Nat → Bool} {a : Nat} : ∀ (d : Nat), (∀ k, a ≤ k → P k = false) → (List.range (a + d)).filter P = (List.range a).filter P
  | 0, h => rfl
  | d + 1, h => by
    rw [← Nat.add_assoc, List.range_succ, List.filter_append, filter_range d h, List.filter_cons, h (a + d) (by omega)]
    simp
theorem filter_range2 {P : Nat → Bool} {a b : Nat} (hab : a ≤ b) (h : ∀ k, a ≤ k → P k = false) : (List.range b).filter P = (List.range a).filter P := by
  have := filter_range (P := P) (a := a) (b - a) h
  rw [show a + (b - a) = b by omega] at this
  exact this
theorem filter_congr2 {P Q : Nat → Bool} {l : List Nat} (h : ∀ k, P k = Q k) : l.filter P = l.filter Q := by
  have : P = Q := funext h
  rw [this]
def lps (l : List Ins) (m : List Int) (i : Nat) : List Nat := (List.range i).filter fun k => enc l m k i && opAt l k == 21
theorem enc_ge {l : List Ins} {m : List Int} {i k : Nat} (h : i ≤ k) : enc l m k i = false := by
  cases h2 : enc l m k i
  · rfl
  · have := (enc_open h2).1; omega
theorem lps_same {l : List Ins} {m : List Int} {i q : Nat} (hiq : i ≤ q) (h : ∀ k, opAt l k = 21 → enc l m k q = enc l m k i) : lps l m q = lps l m i := by
  unfold lps
  have e : ∀ k, (enc l m k q && opAt l k == 21) = (enc l m k i && opAt l k == 21) := fun k => by
    cases h2 : (opAt l k == 21)
    · rw [Bool.and_false, Bool.and_false]
    · rw [h k (eq_of_beq h2)]
  rw [filter_congr2 e]
  exact filter_range2 hiq fun k hk => by rw [enc_ge hk, Bool.false_and]
theorem lps_plain {l : List Ins} {m h : List Int} (hF : Fine l m h) {i : Nat} (hi : i < l.length) (h21 : opAt l i ≠ 21) (h22 : opAt l i ≠ 22) (h24 : opAt l i ≠ 24) : lps l m (i + 1) = lps l m i :=
  lps_same (by omega) fun k hk => by
    rw [enc_succ hF hi h22 h24]
    by_cases hki : k = i
    · exact absurd (hki ▸ hk) h21
    · rw [decide_eq_false hki]; rfl
theorem lps_jump {l : List Ins} {m h : List Int} (hF : Fine l m h) {i : Nat} (hi : i < l.length) (hj : opAt l i = 19 ∨ opAt l i = 20) : lps l m (jumpTo l i) = lps l m i :=
  lps_same (Nat.le_of_lt (jumpTo_gt l i)) fun k _ => hF.jump_enc hi hj k
theorem lps_loop {l : List Ins} {m h : List Int} (hF : Fine l m h) {i : Nat} (hi : i < l.length) (h21 : opAt l i = 21) : lps l m (i + 1) = lps l m i ++ [i] := by
  have ho := isOpen_op (.inl h21)
  unfold lps
  have e : ∀ k, (enc l m k (i + 1) && opAt l k == 21) = ((decide (k = i) || enc l m k i) && opAt l k == 21) := fun k => by
    rw [enc_succ hF hi (by rw [h21]; decide) (by rw [h21]; decide), ho, Bool.and_true]
  rw [filter_congr2 e, List.range_succ, List.filter_append]
  congr 1
  · apply List.filter_congr
    intro k hk
    rw [List.mem_range] at hk
    rw [decide_eq_false (by omega), Bool.false_or]
  · rw [List.filter_cons, decide_eq_true rfl, Bool.true_or, h21]
    rfl
theorem lps_unlock {l : List Ins} {m h : List Int} (hF : Fine l m h) {i : Nat} (hi : i < l.length) (h24 : opAt l i = 24) : lps l m (i + 1) = lps l m i := by
  obtain ⟨k0, a1, a2, a3, a4, a5, a6, a7⟩ := enc_close hF hi (.inr h24)
  refine lps_same (by omega) fun k hk => ?_
  rw [a7, a6]
  by_cases hkk : k = k0
  · subst hkk
    have : opAt l i = (ends (l.getD k (0, 0, 0))).1 := congrArg (·.1) a5
    unfold ends at this
    rw [if_pos (show (l.getD k (0, 0, 0)).1 = 21 from hk), h24] at this
    cases this
  · rw [decide_eq_false hkk, Bool.false_or]
theorem lps_next {l : List Ins} {m h : List Int} (hF : Fine l m h) {i : Nat} (hi : i < l.length) (h22 : opAt l i = 22) : ∃ k0 : Nat, m.getD i 0 = (k0 : Int) ∧ k0 < i ∧ opAt l k0 = 21 ∧ m.getD k0 0 = (i : Int) ∧ lps l m i = lps l m k0 ++ [k0] ∧ lps l m (k0 + 1) = lps l m k0 ++ [k0] ∧ lps l m (i + 1) = lps l m k0 := by
  obtain ⟨k0, a1, a2, a3, a4, a5, a6, a7⟩ := enc_close hF hi (.inl h22)
  have h21 : opAt l k0 = 21 := by
    rcases isOpen_iff.1 a3 with h | h
    · exact h
    · have : opAt l i = (ends (l.getD k0 (0, 0, 0))).1 := congrArg (·.1) a5
      unfold ends at this
      rw [if_neg (show ¬ (l.getD k0 (0, 0, 0)).1 = 21 from fun h2 => by unfold opAt at h; rw [h2] at h; cases h), h22] at this
      cases this
  refine ⟨k0, a1, a2, h21, a4, ?_, lps_loop hF (by omega) h21, ?_⟩
  · rw [← lps_loop hF (by omega) h21]
    refine lps_same (by omega) fun k hk => ?_
    rw [a6, enc_succ hF (by omega) (by rw [h21]; decide) (by rw [h21]; decide), a3, Bool.and_true]
  · exact lps_same (by omega) fun k hk => a7 k
theorem lps_mem {l : List Ins} {m : List Int} {i k : Nat} (h : k ∈ lps l m i) : enc l m k i = true ∧ opAt l k = 21 := by
  unfold lps at h
  rw [List.mem_filter, Bool.and_eq_true, beq_iff_eq] at h
  exact h.2
theorem HeldB.same {l : List Ins} {m : List Int} {i q v : Nat} (h : HeldB l m i v) (he : ∀ k, opAt l k = 23 → enc l m k q = enc l m k i) : HeldB l m q v :=
  ⟨h.1, fun b => (h.2 b).trans ⟨fun ⟨k, k1, k2, k3⟩ => ⟨k, (he k k2).trans k1, k2, k3⟩, fun ⟨k, k1, k2, k3⟩ => ⟨k, (he k k2).symm.trans k1, k2, k3⟩⟩⟩
theorem HeldB.plain {l : List Ins} {m h : List Int} (hF : Fine l m h) {i v : Nat} (hi : i < l.length) (hv : HeldB l m i v) (h23 : opAt l i ≠ 23) (h22 : opAt l i ≠ 22) (h24 : opAt l i ≠ 24) : HeldB l m (i + 1) v :=
  hv.same fun k hk => by
    rw [enc_succ hF hi h22 h24]
    by_cases hki : k = i
    · exact absurd (hki ▸ hk) h23
    · rw [decide_eq_false hki]; rfl
theorem HeldB.jump {l : List Ins} {m h : List Int} (hF : Fine l m h) {i v : Nat} (hi : i < l.length) (hv : HeldB l m i v) (hj : opAt l i = 19 ∨ opAt l i = 20) : HeldB l m (jumpTo l i) v := hv.same fun k _ => hF.jump_enc hi hj k
theorem HeldB.next {l : List Ins} {m h : List Int} (hF : Fine l m h) {i v : Nat} (hi : i < l.length) (hv : HeldB l m i v) (h22 : opAt l i = 22) : ∃ k0 : Nat, m.getD i 0 = (k0 : Int) ∧ HeldB l m (k0 + 1) v ∧ HeldB l m (i + 1) v := by
  obtain ⟨k0, a1, a2, a3, a4, a5, a6, a7⟩ := enc_close hF hi (.inl h22)
  obtain ⟨k1, b1, b2, b3, b4, b5⟩ := lps_next hF hi h22
  have : k0 = k1 := by rw [a1] at b1; omega
  subst this
  refine ⟨k0, a1, ?_, ?_⟩
  · refine hv.same fun k hk => ?_
    rw [a6, enc_succ hF (by omega) (by rw [b3]; decide) (by rw [b3]; decide), a3, Bool.and_true]
  · refine hv.same fun k hk => ?_
    rw [a7, a6]
    by_cases hkk : k = k0
    · subst hkk; rw [b3] at hk; cases hk
    · rw [decide_eq_false hkk, Bool.false_or]
theorem HeldB.lockS {l : List Ins} {m h : List Int} (hF : Fine l m h) {i v : Nat} (hi : i < l.length) (hv : HeldB l m i v) (h23 : opAt l i = 23) {a : Nat} (ha : argA l i = (a : Int)) (ha7 : a ≤ 7) : HeldB l m (i + 1) (v ||| 2 ^ a) := by
  have ho := isOpen_op (.inr h23)
  refine ⟨Nat.or_lt_two_pow (n := 8) hv.1 (Nat.pow_lt_pow_right (by omega) (by omega)), fun b => ?_⟩
  rw [Nat.testBit_or, Bool.or_eq_true, hv.2 b, Nat.testBit_two_pow, decide_eq_true_eq]
  constructor
  · rintro (⟨k, k1, k2, k3⟩ | h1)
    · exact ⟨k, by rw [enc_succ hF hi (by rw [h23]; decide) (by rw [h23]; decide), k1, Bool.or_true], k2, k3⟩
    · subst h1
      exact ⟨i, by rw [enc_succ hF hi (by rw [h23]; decide) (by rw [h23]; decide), ho, decide_eq_true rfl]; rfl, h23, ha⟩
  · rintro ⟨k, k1, k2, k3⟩
    rw [enc_succ hF hi (by rw [h23]; decide) (by rw [h23]; decide), ho, Bool.and_true, Bool.or_eq_true, decide_eq_true_eq] at k1
    rcases k1 with k1 | k1
    · subst k1
      right
      have : argA l k = (b : Int) := k3
      rw [ha] at this
      omega
    · exact .inl ⟨k, k1, k2, k3⟩
def Rise (l : List Ins) (m : List Int) : Prop := ∀ i k, i < l.length → opAt l i = 23 → enc l m k i = true → opAt l k = 23 → argA l k < argA l i
theorem HeldB.unlock {l : List Ins} {m h : List Int} (hF : Fine l m h) (hR : Rise l m) {i v : Nat} (hi : i < l.length) (hv : HeldB l m i v) (h24 : opAt l i = 24) {a : Nat} (ha : argA l i = (a : Int)) {w : Nat} (hw : w < 256) (hwv : ∀ b, w.testBit b = (v.testBit b && decide (b ≠ a))) : HeldB l m (i + 1) w := by
  obtain ⟨k0, a1, a2, a3, a4, a5, a6, a7⟩ := enc_close hF hi (.inr h24)
  have h23 : opAt l k0 = 23 ∧ argA l k0 = argA l i := by
    rcases isOpen_iff.1 a3 with h | h
    · have : opAt l i = (ends (l.getD k0 (0, 0, 0))).1 := congrArg (·.1) a5
      unfold ends at this
      rw [if_pos (show (l.getD k0 (0, 0, 0)).1 = 21 from h), h24] at this
      cases this
    · refine ⟨h, ?_⟩
      have : argA l i = (ends (l.getD k0 (0, 0, 0))).2.1 := congrArg (·.2.1) a5
      unfold ends at this
      rw [if_neg (show ¬ (l.getD k0 (0, 0, 0)).1 = 21 from fun h2 => by unfold opAt at h; rw [h2] at h; cases h)] at this
      exact this.symm
  refine ⟨hw, fun b => ?_⟩
  rw [hwv b, Bool.and_eq_true, hv.2 b, decide_eq_true_eq]
  constructor
  · rintro ⟨⟨k, k1, k2, k3⟩, hb⟩
    refine ⟨k, ?_, k2, k3⟩
    rw [a6, Bool.or_eq_true, decide_eq_true_eq] at k1
    rw [a7]
    rcases k1 with k1 | k1
    · subst k1
      have : argA l k = (b : Int) := k3
      rw [h23.2, ha] at this
      omega
    · exact k1
  · rintro ⟨k, k1, k2, k3⟩
    rw [a7] at k1
    refine ⟨⟨k, by rw [a6, k1, Bool.or_true], k2, k3⟩, fun hb => ?_⟩
    have := hR k0 k (by omega) h23.1 k1 k2
    have k3' : argA l k = (b : Int) := k3
    rw [h23.2, ha, k3'] at this
    omega
theorem locks_whole2 {l : List Ins} (h : locksI l = 0) : wholeI l = 0 := by
  unfold locksI at h
  split at h
  · exact h
  · rename_i h1
    exact Decidable.not_not.1 h1
theorem locks_rise {l : List Ins} (h : locksI l = 0) : Rise l (scanI l).1 := by
  intro i k hi h23 he hk
  have hw := locks_whole2 h
  unfold locksI at h
  rw [if_neg (fun h2 => h2 hw)] at h
  split at h
  · rename_i h1
    have h2 := allF_iff.1 h1 i (Nat.zero_le _) (by omega)
    unfold okQ badI at h2
    rw [if_pos h23] at h2
    rw [Bool.not_eq_true', Bool.or_eq_false_iff] at h2
    have h3 := h2.2
    rcases Int.lt_or_le (argA l k) (argA l i) with h4 | h4
    · exact h4
    · exfalso
      have : overB l (scanI l).1 i = true := anyB_iff.2 ⟨k, (enc_open he).1, by rw [he, hk, decide_eq_true h4]; rfl⟩
      rw [this] at h3
      cases h3
  · cases h
end Go.Proofs.Dk

/- Plain: numbers that go with the types of a stack. -/
namespace Go.Proofs.Dk
open Go
set_option maxRecDepth 100000
set_option linter.unusedVariables false
set_option linter.unusedSimpArgs false
def tyOk (c : UInt8) (x : Int) : Prop := c.toNat = 98 → x = 0 ∨ x = 1
def VTl : List UInt8 → List Int → Prop
  | [], [] => True
  | c :: cs, x :: xs => tyOk c x ∧ VTl cs xs
  | [], _ :: _ => False
  | _ :: _, [] => False
theorem VTl_len : ∀ {cs : List UInt8} {v : List Int}, VTl cs v → v.length = cs.length
  | [], [], _ => rfl
  | c :: cs, x :: xs, h => congrArg (· + 1) (VTl_len h.2)
theorem VTl_app : ∀ {a b : List UInt8} {v w : List Int}, VTl a v → VTl b w → VTl (a ++ b) (v ++ w)
  | [], b, [], w, _, h => h
  | c :: cs, b, x :: xs, w, h, h' => ⟨h.1, VTl_app h.2 h'⟩
theorem VTl_split : ∀ {a b : List UInt8} {v : List Int}, VTl (a ++ b) v → ∃ r w, v = r ++ w ∧ VTl a r ∧ VTl b w
  | [], b, v, h => ⟨[], v, rfl, trivial, h⟩
  | c :: cs, b, x :: xs, h => by
    obtain ⟨r, w, e, h1, h2⟩ := VTl_split (a := cs) h.2
    exact ⟨x :: r, w, by rw [e]; rfl, ⟨h.1, h1⟩, h2⟩
theorem VTl_1 {c : UInt8} : ∀ {w : List Int}, VTl [c] w → ∃ x, w = [x] ∧ tyOk c x
  | [x], h => ⟨x, rfl, h.1⟩
  | _ :: _ :: _, h => h.2.elim
theorem VTl_2 {c d : UInt8} : ∀ {w : List Int}, VTl [c, d] w → ∃ x y, w = [x, y] ∧ tyOk c x ∧ tyOk d y
  | [x, y], h => ⟨x, y, rfl, h.1, h.2.1⟩
  | [_], h => h.2.elim
  | _ :: _ :: _ :: _, h => h.2.2.elim
theorem VTl_get : ∀ {cs : List UInt8} {v : List Int} {k : Nat}, VTl cs v → (cs.getD k 0).toNat = 98 → v.getD k 0 = 0 ∨ v.getD k 0 = 1
  | [], [], k, _, h => by simp at h
  | c :: cs, x :: xs, 0, h, h2 => h.1 h2
  | c :: cs, x :: xs, k + 1, h, h2 => VTl_get (k := k) h.2 h2
def VT (s : ByteArray) (v : List Int) : Prop := VTl s.data.toList v
theorem VT.len {s : ByteArray} {v : List Int} (h : VT s v) : v.length = s.size := (VTl_len h).trans Array.length_toList
theorem VT.get {s : ByteArray} {v : List Int} (h : VT s v) {k : Nat} (h2 : bt s (k : Int) = 98) : v.getD k 0 = 0 ∨ v.getD k 0 = 1 := by
  unfold bt at h2
  rw [Int.toNat_natCast] at h2
  exact VTl_get h (by omega)
theorem after_parts {x : Ins} {s : ByteArray} (h : (afterI x s).2 = 0) : ∃ (a : List UInt8) (T : ByteArray), s.data.toList = a ++ T.data.toList ∧ fitsB T (takesI x.1) = true ∧ (afterI x s).1.data.toList = a ++ (givesI x.1 x.2.1 T).data.toList := by
  unfold afterI at h ⊢
  split at h
  · cases h
  · rename_i h1
    rw [if_neg h1]
    split at h
    · rename_i h2
      rw [if_pos h2]
      split at h
      · cases h
      · rename_i h3
        rw [if_neg h3]
        refine ⟨(s.extract 0 (s.size - (takesI x.1).size)).data.toList, s.extract (s.size - (takesI x.1).size) s.size, ?_, h2, ?_⟩
        · rw [ByteArray.data_extract, ByteArray.data_extract, Array.toList_extract, Array.toList_extract, List.extract_eq_take_drop, List.extract_eq_take_drop]
          have e : s.data.toList.length = s.size := Array.length_toList
          generalize hn : s.size - (takesI x.1).size = n
          rw [List.drop_zero, List.take_of_length_le (l := List.drop n s.data.toList) (by rw [List.length_drop, e]; exact Nat.le_refl _), List.take_append_drop]
        · rw [ByteArray.data_append, Array.toList_append]
    · cases h
theorem fits_bt {T b : ByteArray} (h : fitsB T b = true) : T.size = b.size ∧ ∀ k, k < b.size → bt b (k : Int) = 32 ∨ bt b (k : Int) = bt T (k : Int) := by
  refine ⟨fits_size h, fun k hk => ?_⟩
  unfold fitsB at h
  rw [Bool.and_eq_true] at h
  have h2 := allF_iff.1 h.2 k (Nat.zero_le _) (by omega)
  unfold fitQ at h2
  rw [Bool.or_eq_true, beq_iff_eq, beq_iff_eq] at h2
  exact h2
theorem fits0 {T : ByteArray} (h : fitsB T (ByteArray.mk #[]) = true) : T.data.toList = [] := by
  have h1 := (fits_bt h).1
  apply List.eq_nil_of_length_eq_zero
  rw [Array.length_toList]
  exact h1
theorem fits1 {T : ByteArray} {c : UInt8} (h : fitsB T (ByteArray.mk #[c]) = true) : ∃ d : UInt8, T.data.toList = [d] ∧ (c.toNat = 32 ∨ d.toNat = c.toNat) := by
  obtain ⟨h1, h2⟩ := fits_bt h
  have h3 : T.data.toList.length = 1 := by rw [Array.length_toList]; exact h1
  obtain ⟨d, hd⟩ := List.length_eq_one_iff.1 h3
  refine ⟨d, hd, ?_⟩
  have h4 := h2 0 (by show 0 < 1; decide)
  unfold bt at h4
  rw [hd] at h4
  have e : (((ByteArray.mk #[c]).data.toList.getD ((0 : Nat) : Int).toNat 0).toNat : Int) = (c.toNat : Int) := rfl
  rw [e] at h4
  have e2 : (([d].getD ((0 : Nat) : Int).toNat 0).toNat : Int) = (d.toNat : Int) := rfl
  rw [e2] at h4
  omega
theorem fits2 {T : ByteArray} {c c' : UInt8} (h : fitsB T (ByteArray.mk #[c, c']) = true) : ∃ d d' : UInt8, T.data.toList = [d, d'] ∧ (c.toNat = 32 ∨ d.toNat = c.toNat) ∧ (c'.toNat = 32 ∨ d'.toNat = c'.toNat) := by
  obtain ⟨h1, h2⟩ := fits_bt h
  have h3 : T.data.toList.length = 2 := by rw [Array.length_toList]; exact h1
  obtain ⟨d, d', hd⟩ : ∃ d d', T.data.toList = [d, d'] := by
    match hT : T.data.toList, h3 with
    | [d, d'], _ => exact ⟨d, d', rfl⟩
  refine ⟨d, d', hd, ?_, ?_⟩
  · have h4 := h2 0 (by show 0 < 2; decide)
    unfold bt at h4
    rw [hd] at h4
    have e : (((ByteArray.mk #[c, c']).data.toList.getD ((0 : Nat) : Int).toNat 0).toNat : Int) = (c.toNat : Int) := rfl
    have e2 : (([d, d'].getD ((0 : Nat) : Int).toNat 0).toNat : Int) = (d.toNat : Int) := rfl
    rw [e, e2] at h4
    omega
  · have h4 := h2 1 (by show 1 < 2; decide)
    unfold bt at h4
    rw [hd] at h4
    have e : (((ByteArray.mk #[c, c']).data.toList.getD ((1 : Nat) : Int).toNat 0).toNat : Int) = (c'.toNat : Int) := rfl
    have e2 : (([d, d'].getD ((1 : Nat) : Int).toNat 0).toNat : Int) = (d'.toNat : Int) := rfl
    rw [e, e2] at h4
    omega
theorem VT_app {s' : ByteArray} {a g : List UInt8} {r w : List Int} (e : s'.data.toList = a ++ g) (h1 : VTl a r) (h2 : VTl g w) : VT s' (r ++ w) := by
  unfold VT
  rw [e]
  exact VTl_app h1 h2
theorem ty105 (x : Int) : tyOk 105 x := fun h => by cases h
theorem vt_zero {o A B : Int} {s : ByteArray} {v : List Int} (h : (afterI (o, A, B) s).2 = 0) (hv : VT s v) (e : takesI o = ByteArray.mk #[]) {w : List Int} {g : List UInt8} (hg : (givesI o A (ByteArray.mk #[])).data.toList = g) (hw : VTl g w) : VT (afterI (o, A, B) s).1 (v ++ w) := by
  obtain ⟨a, T, h1, h2, h3⟩ := after_parts h
  have h2' : fitsB T (takesI o) = true := h2
  rw [e] at h2'
  have hT := fits0 h2'
  have hT2 : T = ByteArray.mk #[] := by
    cases T
    congr 1
    exact Array.toList_inj.1 hT
  subst hT2
  rw [hT, List.append_nil] at h1
  have hv' : VTl a v := by unfold VT at hv; rw [h1] at hv; exact hv
  exact VT_app (h3.trans (congrArg (a ++ ·) hg)) hv' hw
theorem vt_in {o A B : Int} {s : ByteArray} {v : List Int} (h : (afterI (o, A, B) s).2 = 0) (hv : VT s v) (e : o = 1 ∨ o = 11 ∨ o = 13 ∨ o = 15 ∨ o = 17) (y : Int) : VT (afterI (o, A, B) s).1 (v ++ [y]) := by
  have hg : (givesI o A (ByteArray.mk #[])).data.toList = [105] := by
    unfold givesI
    rw [if_pos (by omega)]
  have hw : VTl [105] [y] := ⟨ty105 y, trivial⟩
  have ht : takesI o = ByteArray.mk #[] := by rcases e with rfl | rfl | rfl | rfl | rfl <;> kernel_rfl
  exact vt_zero h hv ht hg hw
theorem vt_no {o A B : Int} {s : ByteArray} {v : List Int} (h : (afterI (o, A, B) s).2 = 0) (hv : VT s v) (e : o = 19 ∨ o = 21 ∨ o = 22 ∨ o = 23 ∨ o = 24 ∨ o = 25) : VT (afterI (o, A, B) s).1 v := by
  have hg : (givesI o A (ByteArray.mk #[])).data.toList = [] := by
    unfold givesI
    rw [if_neg (by omega), if_neg (by omega), if_neg (by omega), if_neg (by omega), if_neg (by omega)]
  have hw : VTl [] [] := trivial
  have ht : takesI o = ByteArray.mk #[] := by rcases e with rfl | rfl | rfl | rfl | rfl | rfl <;> kernel_rfl
  have := vt_zero h hv ht hg hw
  rw [List.append_nil] at this
  exact this
theorem vt_one {o A B : Int} {s : ByteArray} {v : List Int} (h : (afterI (o, A, B) s).2 = 0) (hv : VT s v) {c : UInt8} (e : takesI o = ByteArray.mk #[c]) : ∃ (a : List UInt8) (r : List Int) (x : Int) (T : ByteArray) (d : UInt8), v = r ++ [x] ∧ T.data.toList = [d] ∧ (c.toNat = 32 ∨ d.toNat = c.toNat) ∧ tyOk d x ∧ VTl a r ∧ (afterI (o, A, B) s).1.data.toList = a ++ (givesI o A T).data.toList := by
  obtain ⟨a, T, h1, h2, h3⟩ := after_parts h
  have h2' : fitsB T (takesI o) = true := h2
  rw [e] at h2'
  obtain ⟨d, hT, hd⟩ := fits1 h2'
  unfold VT at hv
  rw [h1, hT] at hv
  obtain ⟨r, w, e1, e2, e3⟩ := VTl_split hv
  obtain ⟨x, e4, e5⟩ := VTl_1 e3
  exact ⟨a, r, x, T, d, by rw [e1, e4], hT, hd, e5, e2, h3⟩
theorem vt_out {o A B : Int} {s : ByteArray} {v : List Int} (h : (afterI (o, A, B) s).2 = 0) (hv : VT s v) (e : o = 2 ∨ o = 12 ∨ o = 14 ∨ o = 16 ∨ o = 18 ∨ o = 20) : ∃ r x, v = r ++ [x] ∧ VT (afterI (o, A, B) s).1 r := by
  have hg : ∀ T, givesI o A T = ByteArray.mk #[] := fun T => by
    unfold givesI
    rw [if_neg (by omega), if_neg (by omega), if_neg (by omega), if_neg (by omega), if_neg (by omega)]
  have ht : ∃ c : UInt8, takesI o = ByteArray.mk #[c] := by
    rcases e with rfl | rfl | rfl | rfl | rfl | rfl
    · exact ⟨32, by kernel_rfl⟩
    · exact ⟨105, by kernel_rfl⟩
    · exact ⟨105, by kernel_rfl⟩
    · exact ⟨105, by kernel_rfl⟩
    · exact ⟨105, by kernel_rfl⟩
    · exact ⟨98, by kernel_rfl⟩
  obtain ⟨c, hc⟩ := ht
  obtain ⟨a, r, x, T, d, e1, e2, e3, e4, e5, e6⟩ := vt_one h hv hc
  rw [hg T] at e6
  have := VT_app (g := []) (w := []) e6 e5 trivial
  rw [List.append_nil] at this
  exact ⟨r, x, e1, this⟩
theorem vt_dup {o A B : Int} {s : ByteArray} {v : List Int} (h : (afterI (o, A, B) s).2 = 0) (hv : VT s v) (ho : o = 3) : ∃ r x, v = r ++ [x] ∧ VT (afterI (o, A, B) s).1 (r ++ [x, x]) := by
  have ht : takesI o = ByteArray.mk #[32] := by subst ho; kernel_rfl
  obtain ⟨a, r, x, T, d, e1, e2, e3, e4, e5, e6⟩ := vt_one h hv ht
  have hg : givesI o A T = T ++ T := by
    unfold givesI
    rw [if_neg (by omega), if_pos ho]
  rw [hg, ByteArray.data_append, Array.toList_append, e2] at e6
  exact ⟨r, x, e1, VT_app e6 e5 ⟨e4, e4, trivial⟩⟩
theorem vt_neg {o A B : Int} {s : ByteArray} {v : List Int} (h : (afterI (o, A, B) s).2 = 0) (hv : VT s v) (ho : o = 6) : ∃ r x, v = r ++ [x] ∧ ∀ z, VT (afterI (o, A, B) s).1 (r ++ [z]) := by
  have ht : takesI o = ByteArray.mk #[105] := by subst ho; kernel_rfl
  obtain ⟨a, r, x, T, d, e1, e2, e3, e4, e5, e6⟩ := vt_one h hv ht
  have hg : givesI o A T = ByteArray.mk #[105] := by
    unfold givesI
    rw [if_pos (by omega)]
  rw [hg] at e6
  exact ⟨r, x, e1, fun z => VT_app (g := [105]) e6 e5 ⟨ty105 z, trivial⟩⟩
theorem vt_not {o A B : Int} {s : ByteArray} {v : List Int} (h : (afterI (o, A, B) s).2 = 0) (hv : VT s v) (ho : o = 7) : ∃ r x, v = r ++ [x] ∧ (x = 0 ∨ x = 1) ∧ ∀ z, z = 0 ∨ z = 1 → VT (afterI (o, A, B) s).1 (r ++ [z]) := by
  have ht : takesI o = ByteArray.mk #[98] := by subst ho; kernel_rfl
  obtain ⟨a, r, x, T, d, e1, e2, e3, e4, e5, e6⟩ := vt_one h hv ht
  have hg : givesI o A T = ByteArray.mk #[98] := by
    unfold givesI
    rw [if_neg (by omega), if_neg (by omega), if_neg (by omega), if_neg (by omega), if_pos (by omega)]
  rw [hg] at e6
  exact ⟨r, x, e1, e4 (e3.elim (fun h => by cases h) fun h => h), fun z hz => VT_app (g := [98]) e6 e5 ⟨fun _ => hz, trivial⟩⟩
theorem vt_cast {o A B : Int} {s : ByteArray} {v : List Int} (h : (afterI (o, A, B) s).2 = 0) (hv : VT s v) (ho : o = 10) : VT (afterI (o, A, B) s).1 v := by
  have ht : takesI o = ByteArray.mk #[98] := by subst ho; kernel_rfl
  obtain ⟨a, r, x, T, d, e1, e2, e3, e4, e5, e6⟩ := vt_one h hv ht
  have hg : givesI o A T = ByteArray.mk #[105] := by
    unfold givesI
    rw [if_pos (by omega)]
  rw [hg] at e6
  rw [e1]
  exact VT_app (g := [105]) e6 e5 ⟨ty105 x, trivial⟩
theorem vt_two {o A B : Int} {s : ByteArray} {v : List Int} (h : (afterI (o, A, B) s).2 = 0) (hv : VT s v) {c c' : UInt8} (e : takesI o = ByteArray.mk #[c, c']) : ∃ (a : List UInt8) (r : List Int) (x y : Int) (T : ByteArray) (d d' : UInt8), v = r ++ [x, y] ∧ T.data.toList = [d, d'] ∧ (c.toNat = 32 ∨ d.toNat = c.toNat) ∧ (c'.toNat = 32 ∨ d'.toNat = c'.toNat) ∧ tyOk d x ∧ tyOk d' y ∧ VTl a r ∧ (afterI (o, A, B) s).1.data.toList = a ++ (givesI o A T).data.toList := by
  obtain ⟨a, T, h1, h2, h3⟩ := after_parts h
  have h2' : fitsB T (takesI o) = true := h2
  rw [e] at h2'
  obtain ⟨d, d', hT, hd, hd'⟩ := fits2 h2'
  unfold VT at hv
  rw [h1, hT] at hv
  obtain ⟨r, w, e1, e2, e3⟩ := VTl_split hv
  obtain ⟨x, y, e4, e5, e6⟩ := VTl_2 e3
  exact ⟨a, r, x, y, T, d, d', by rw [e1, e4], hT, hd, hd', e5, e6, e2, h3⟩
theorem vt_swap {o A B : Int} {s : ByteArray} {v : List Int} (h : (afterI (o, A, B) s).2 = 0) (hv : VT s v) (ho : o = 4) : ∃ r x y, v = r ++ [x, y] ∧ VT (afterI (o, A, B) s).1 (r ++ [y, x]) := by
  have ht : takesI o = ByteArray.mk #[32, 32] := by subst ho; kernel_rfl
  obtain ⟨a, r, x, y, T, d, d', e1, e2, e3, e3', e4, e4', e5, e6⟩ := vt_two h hv ht
  have hg : givesI o A T = T.extract 1 T.size ++ T.extract 0 1 := by
    unfold givesI
    rw [if_neg (by omega), if_neg (by omega), if_pos ho]
  have hs : T.size = 2 := by
    have : T.data.toList.length = T.size := Array.length_toList
    rw [e2] at this
    exact this.symm
  have e7 : (T.extract 1 T.size ++ T.extract 0 1).data.toList = [d', d] := by
    rw [ByteArray.data_append, Array.toList_append, ByteArray.data_extract, ByteArray.data_extract, Array.toList_extract, Array.toList_extract, List.extract_eq_take_drop, List.extract_eq_take_drop, e2, hs]
    rfl
  rw [hg, e7] at e6
  exact ⟨r, x, y, e1, VT_app e6 e5 ⟨e4', e4, trivial⟩⟩
theorem vt_bin {o A B : Int} {s : ByteArray} {v : List Int} (h : (afterI (o, A, B) s).2 = 0) (hv : VT s v) (ho : o = 5) : ∃ r x y, v = r ++ [x, y] ∧ ∀ z, (11 ≤ A → z = 0 ∨ z = 1) → VT (afterI (o, A, B) s).1 (r ++ [z]) := by
  have ht : takesI o = ByteArray.mk #[105, 105] := by subst ho; kernel_rfl
  obtain ⟨a, r, x, y, T, d, d', e1, e2, e3, e3', e4, e4', e5, e6⟩ := vt_two h hv ht
  refine ⟨r, x, y, e1, fun z hz => ?_⟩
  by_cases hA : A ≥ 11
  · have hg : givesI o A T = ByteArray.mk #[98] := by
      unfold givesI
      rw [if_neg (by omega), if_neg (by omega), if_neg (by omega), if_pos ho, if_pos hA]
    rw [hg] at e6
    exact VT_app (g := [98]) e6 e5 ⟨fun _ => hz hA, trivial⟩
  · have hg : givesI o A T = ByteArray.mk #[105] := by
      unfold givesI
      rw [if_neg (by omega), if_neg (by omega), if_neg (by omega), if_pos ho, if_neg hA]
    rw [hg] at e6
    exact VT_app (g := [105]) e6 e5 ⟨ty105 z, trivial⟩
theorem vt_log {o A B : Int} {s : ByteArray} {v : List Int} (h : (afterI (o, A, B) s).2 = 0) (hv : VT s v) (ho : o = 8 ∨ o = 9) : ∃ r x y, v = r ++ [x, y] ∧ (x = 0 ∨ x = 1) ∧ (y = 0 ∨ y = 1) ∧ ∀ z, z = 0 ∨ z = 1 → VT (afterI (o, A, B) s).1 (r ++ [z]) := by
  have ht : takesI o = ByteArray.mk #[98, 98] := by rcases ho with rfl | rfl <;> kernel_rfl
  have hg : ∀ T, givesI o A T = ByteArray.mk #[98] := fun T => by
    unfold givesI
    rw [if_neg (by omega), if_neg (by omega), if_neg (by omega), if_neg (by omega), if_pos (by omega)]
  obtain ⟨a, r, x, y, T, d, d', e1, e2, e3, e3', e4, e4', e5, e6⟩ := vt_two h hv ht
  rw [hg T] at e6
  exact ⟨r, x, y, e1, e4 (e3.elim (fun h => by cases h) fun h => h), e4' (e3'.elim (fun h => by cases h) fun h => h), fun z hz => VT_app (g := [98]) e6 e5 ⟨fun _ => hz, trivial⟩⟩
end Go.Proofs.Dk

/- Plain: the steps of ways, as the document says. -/
namespace Go.Proofs.Dk
open Go
set_option maxRecDepth 100000
set_option linter.unusedVariables false
set_option linter.unusedSimpArgs false
structure LQ (d : List Int) (s : List Bool) (D : Nat → Int) (a z : Nat) : Prop where
  dl : d.length = z - a + 1
  sl : s.length = z - a + 1
  at_ : ∀ k, a ≤ k → k ≤ z → d.getD (k - a) 0 = (if D k = -1 then 0 else D k) ∧ s.getD (k - a) false = (D k != -1)
theorem getD_setB {l : List Bool} {i j : Nat} {v d : Bool} (h : i < l.length) : (l.set i v).getD j d = if j = i then v else l.getD j d := getD_set h
theorem LQ.put {d : List Int} {s : List Bool} {D : Nat → Int} {a z : Nat} (h : LQ d s D a z) (b : Int → Int → Int) {k : Nat} (hk : a ≤ k) (hk2 : k ≤ z) {v x : Int} (hx : x = if D k = -1 then v else b (D k) v) (hx0 : x ≠ -1) : LQ (d.set (k - a) x) (s.set (k - a) true) (putI b D k v) a z := by
  have h1 := h.dl
  have h2 := h.sl
  refine ⟨by rw [List.length_set, h1], by rw [List.length_set, h2], fun j j1 j2 => ?_⟩
  rw [getD_set (by omega), getD_setB (by omega)]
  unfold putI
  by_cases e : j = k
  · subst e
    rw [if_pos rfl, if_pos rfl, if_pos rfl, ← hx, if_neg hx0]
    exact ⟨rfl, (bne_iff_ne.2 hx0).symm⟩
  · have e3 : ¬ (j - a = k - a) := by omega
    simp only [e3, e, if_false]
    exact h.at_ j j1 j2
theorem LQ.same {d : List Int} {s : List Bool} {D : Nat → Int} {a z : Nat} (h : LQ d s D a z) (b : Int → Int → Int) {k : Nat} {v : Int} (h1 : D k ≠ -1) (h2 : b (D k) v = D k) : LQ d s (putI b D k v) a z := by
  refine ⟨h.dl, h.sl, fun j j1 j2 => ?_⟩
  unfold putI
  by_cases e : j = k
  · subst e
    rw [if_pos rfl, if_neg h1, h2]
    exact h.at_ j j1 j2
  · rw [if_neg e]
    exact h.at_ j j1 j2
end Go.Proofs.Dk

/- Plain: the steps of ways, as the document says, on. -/
namespace Go.Proofs.Dk
open Go
set_option maxRecDepth 100000
set_option linter.unusedVariables false
set_option linter.unusedSimpArgs false
end Go.Proofs.Dk

/- Plain: steps of rows, sections. -/
namespace Go.Proofs.Dk
open Go
set_option maxRecDepth 100000
set_option linter.unusedVariables false
set_option linter.unusedSimpArgs false
noncomputable def allI (b : Int → Int → Int) (n : Nat) (l : List Ins) : Int × Int :=
  if locksI l ≠ 0 then (0, locksI l) else if stacksI l ≠ 0 then (0, stacksI l)
  else if addI (wayF b l (scanI l).1 n 0 (l.length - 1)) 1 = 1048577 then (0, 4) else (addI (wayF b l (scanI l).1 n 0 (l.length - 1)) 1, 0)
theorem locks_whole {l : List Ins} (h : locksI l = 0) : wholeI l = 0 := by
  unfold locksI at h
  split at h
  · exact h
  · rename_i h1
    by_cases e : wholeI l = 0
    · exact e
    · exact absurd e h1
theorem len1_ix {k : Nat} (h : 0 < k) (h2 : k < 1000000) : IntKind.wrap .i64 ((k : Int) - 1) = ((k - 1 : Nat) : Int) := last_ix h h2

theorem allmost_is (n : Nat) (l : List Ins) (hl : l.length < n) (hn3 : 3 < n) (hn : n < 1000000) : cost_all_most.f n l = some (allI bM n l) := by
  obtain ⟨o1, h1⟩ := locks_is n l hl hn
  obtain ⟨o2, h2⟩ := stacks_is n l hl hn3 hn
  unfold cost_all_most.f allI
  rw [h1, Option.bind_some]
  by_cases hk : locksI l = 0
  · have hw := locks_whole hk
    have hs := whole_scan hw
    have hF := whole_fine hw
    obtain ⟨l1, l2⟩ := hF.len
    rw [if_neg (fun h => (bne_iff_ne.1 h) hk), if_neg (show ¬ (locksI l ≠ 0) from fun h => h hk), h2, Option.bind_some]
    by_cases ht : stacksI l = 0
    · have hS := (come_is ht).2
      rw [if_neg (fun h => (bne_iff_ne.1 h) ht), if_neg (show ¬ (stacksI l ≠ 0) from fun h => h ht), match_is n l hl hn, Option.bind_some]
      simp only
      have hwy := way_reach bM_bet hF hS n hF.wayAll
      have hw1 := most_is n hF hl hF.all
      rw [show ((0 : Nat) : Int) = 0 from rfl] at hw1
      rw [if_neg (fun h => (bne_iff_ne.1 h) hs), len1_ix l1 (by omega), hw1, Option.bind_some, costadd_is n (by omega) hwy.2 (by decide) (by decide), Option.bind_some]
      generalize addI (wayF bM l (scanI l).1 n 0 (l.length - 1)) 1 = w
      by_cases e : w = 1048577
      · rw [if_pos e, if_pos (by simpa only [beq_iff_eq] using e)]
      · rw [if_neg e, if_neg (by simpa only [beq_iff_eq] using e)]
    · rw [if_pos (show (stacksI l != 0) = true from bne_iff_ne.2 ht), if_pos (show (stacksI l != 0) = true from bne_iff_ne.2 ht), if_pos ht]
  · rw [if_pos (show (locksI l != 0) = true from bne_iff_ne.2 hk), if_pos (show (locksI l != 0) = true from bne_iff_ne.2 hk), if_pos hk]

theorem allleast_is (n : Nat) (l : List Ins) (hl : l.length < n) (hn3 : 3 < n) (hn : n < 1000000) : cost_all_least.f n l = some (allI bL n l) := by
  obtain ⟨o1, h1⟩ := locks_is n l hl hn
  obtain ⟨o2, h2⟩ := stacks_is n l hl hn3 hn
  unfold cost_all_least.f allI
  rw [h1, Option.bind_some]
  by_cases hk : locksI l = 0
  · have hw := locks_whole hk
    have hs := whole_scan hw
    have hF := whole_fine hw
    obtain ⟨l1, l2⟩ := hF.len
    rw [if_neg (fun h => (bne_iff_ne.1 h) hk), if_neg (show ¬ (locksI l ≠ 0) from fun h => h hk), h2, Option.bind_some]
    by_cases ht : stacksI l = 0
    · have hS := (come_is ht).2
      rw [if_neg (fun h => (bne_iff_ne.1 h) ht), if_neg (show ¬ (stacksI l ≠ 0) from fun h => h ht), match_is n l hl hn, Option.bind_some]
      simp only
      have hwy := way_reach bL_bet hF hS n hF.wayAll
      have hw1 := least_is n hF hl hF.all
      rw [show ((0 : Nat) : Int) = 0 from rfl] at hw1
      rw [if_neg (fun h => (bne_iff_ne.1 h) hs), len1_ix l1 (by omega), hw1, Option.bind_some, costadd_is n (by omega) hwy.2 (by decide) (by decide), Option.bind_some]
      generalize addI (wayF bL l (scanI l).1 n 0 (l.length - 1)) 1 = w
      by_cases e : w = 1048577
      · rw [if_pos e, if_pos (by simpa only [beq_iff_eq] using e)]
      · rw [if_neg e, if_neg (by simpa only [beq_iff_eq] using e)]
    · rw [if_pos (show (stacksI l != 0) = true from bne_iff_ne.2 ht), if_pos (show (stacksI l != 0) = true from bne_iff_ne.2 ht), if_pos ht]
  · rw [if_pos (show (locksI l != 0) = true from bne_iff_ne.2 hk), if_pos (show (locksI l != 0) = true from bne_iff_ne.2 hk), if_pos hk]

theorem worst_is (n : Nat) (l : List Ins) (hl : l.length < n) (hn3 : 3 < n) (hn : n < 1000000) : cost_Worst.f n l = some (allI bM n l) := by
  unfold cost_Worst.f
  rw [allmost_is n l hl hn3 hn]
  rfl
theorem best_is (n : Nat) (l : List Ins) (hl : l.length < n) (hn3 : 3 < n) (hn : n < 1000000) : cost_Best.f n l = some (allI bL n l) := by
  unfold cost_Best.f
  rw [allleast_is n l hl hn3 hn]
  rfl
def sectS (l : List Ins) (m : List Int) (n : Nat) : Nat → Nat → List (Int × Int)
  | 0, _ => []
  | r + 1, i => (if opAt l i = 23 then [(argA l i, wayF bM l m n (i + 1) (mN m i) + 1)] else []) ++ sectS l m n r (i + 1)
noncomputable def sectI (n : Nat) (l : List Ins) : List (Int × Int) × Int := if (allI bM n l).2 ≠ 0 then ([], (allI bM n l).2) else (sectS l (scanI l).1 n l.length 0, 0)
theorem sect_loop (n : Nat) {l : List Ins} {m h : List Int} (hF : Fine l m h) (hn : l.length < n) : ∀ (f i : Nat) {o : List (Int × Int)}, o.length ≤ i → i ≤ l.length → l.length < f + i →
    it (fun F (x : (List (Int × Int)) × (List (Int × (Int × Int))) × Int × Int × (List (Int × (Int × Int))) × (List Int)) => cost_Sections.b0 n F x.1 x.2.1 x.2.2.1 x.2.2.2.1 x.2.2.2.2.1 x.2.2.2.2.2) f (o, l, (l.length : Int), (i : Int), l, m) = some (o ++ sectS l m n (l.length - i) i, l, m)
  | 0, i, o, ho, hi, hf => by omega
  | f + 1, i, o, ho, hi, hf => by
    have ih := fun {o : List (Int × Int)} => sect_loop n hF hn f (i + 1) (o := o)
    show cost_Sections.b0 n (it _ f) o l (l.length : Int) (i : Int) l m = _
    generalize it (fun F (x : (List (Int × Int)) × (List (Int × (Int × Int))) × Int × Int × (List (Int × (Int × Int))) × (List Int)) => cost_Sections.b0 n F x.1 x.2.1 x.2.2.1 x.2.2.2.1 x.2.2.2.2.1 x.2.2.2.2.2) f = F at ih ⊢
    obtain ⟨l1, l2⟩ := hF.len
    unfold cost_Sections.b0
    rcases Nat.lt_or_ge i l.length with hlt | hge
    · rw [if_pos (decide_eq_true (by omega)), if_pos (in_ix hlt), Int.toNat_natCast, next_ix (by omega), show l.length - i = (l.length - (i + 1)) + 1 by omega]
      rw [show sectS l m n (l.length - (i + 1) + 1) i = (if opAt l i = 23 then [(argA l i, wayF bM l m n (i + 1) (mN m i) + 1)] else []) ++ sectS l m n (l.length - (i + 1)) (i + 1) from rfl]
      by_cases h23 : (l.getD i (0, 0, 0)).1 = 23
      · rw [if_pos (show ((l.getD i (0, 0, 0)).1 == 23) = true by simpa only [beq_iff_eq] using h23), if_pos (show opAt l i = 23 from h23), if_pos (in_ix (by rw [hF.nest.hm]; exact hlt))]
        have ho2 : isOpen l i = true := isOpen_iff.2 (.inr h23)
        obtain ⟨j, j1, j2, j3⟩ := hF.nest.open_ i hlt ho2
        have hj : mN m i = j := by unfold mN; rw [j1]; rfl
        have hR := hF.reg hlt ho2
        rw [hj] at hR ⊢
        have hwy := wayF_ok bM_bet hF n hR
        rw [j1, sect_is n hF hn hR, Option.bind_some, if_pos (by simp; omega)]
        have hwr : IntKind.wrap .i64 (wayF bM l m n (i + 1) j + 1) = wayF bM l m n (i + 1) j + 1 := by
          rcases hwy with h | h
          · rw [h]; rfl
          · exact wrap_id (by omega) (by omega)
        rw [hwr, ih (by simp; omega) (by omega) (by omega), List.append_assoc]
      · rw [if_neg (show ¬ ((l.getD i (0, 0, 0)).1 == 23) = true by simpa only [beq_iff_eq] using h23), if_neg (show ¬ opAt l i = 23 from h23), ih (by omega) (by omega) (by omega), List.nil_append]
    · have : i = l.length := by omega
      subst this
      rw [if_neg (by simp), Nat.sub_self]
      simp [sectS]
theorem all_zero {b : Int → Int → Int} {n : Nat} {l : List Ins} (h : (allI b n l).2 = 0) : locksI l = 0 ∧ stacksI l = 0 := by
  unfold allI at h
  by_cases h1 : locksI l = 0
  · rw [if_neg (show ¬ (locksI l ≠ 0) from fun h => h h1)] at h
    by_cases h2 : stacksI l = 0
    · exact ⟨h1, h2⟩
    · rw [if_pos h2] at h
      exact absurd h h2
  · rw [if_pos h1] at h
    exact absurd h h1
theorem sections_is (n : Nat) (l : List Ins) (hl : l.length < n) (hn3 : 3 < n) (hn : n < 1000000) : cost_Sections.f n l = some (sectI n l) := by
  unfold cost_Sections.f sectI
  rw [worst_is n l hl hn3 hn, Option.bind_some]
  by_cases h0 : (allI bM n l).2 = 0
  · obtain ⟨hk, ht⟩ := all_zero h0
    obtain ⟨o1, h1⟩ := locks_is n l hl hn
    obtain ⟨o2, h2⟩ := stacks_is n l hl hn3 hn
    have hF := whole_fine (locks_whole hk)
    have hlp := sect_loop n hF hl n 0 (o := []) (Nat.zero_le _) (Nat.zero_le _) (by omega)
    rw [show ((0 : Nat) : Int) = 0 from rfl, Nat.sub_zero] at hlp
    unfold cost_Sections.b0.l
    rw [if_neg (fun h => (bne_iff_ne.1 h) h0), if_neg (show ¬ ((allI bM n l).2 ≠ 0) from fun h => h h0), h1, Option.bind_some, if_neg (fun h => (bne_iff_ne.1 h) hk), h2, Option.bind_some, if_neg (fun h => (bne_iff_ne.1 h) ht), match_is n l hl hn, Option.bind_some]
    simp only
    rw [hlp, Option.bind_some, List.nil_append]
  · rw [if_pos (bne_iff_ne.2 h0), if_pos h0]
end Go.Proofs.Dk

/- Plain: rows in which nothing is left out; sections that are alike. -/
namespace Go.Proofs.Dk
open Go
set_option maxRecDepth 100000
set_option linter.unusedVariables false
set_option linter.unusedSimpArgs false
def strQ (l : List Ins) (k : Nat) : Bool := !((opAt l k == 19 || opAt l k == 20) && decide (argA l k > 0))
def strB (l : List Ins) : Bool := allF (strQ l) l.length 0
theorem str_loop (n : Nat) {l : List Ins} (hl : l.length < 1000000) : ∀ (f i : Nat), i ≤ l.length → l.length < f + i →
    it (fun F (x : (List (Int × (Int × Int))) × Int × Int) => cost_Straight.b0 n F x.1 x.2.1 x.2.2) f (l, (l.length : Int), (i : Int)) = some (if allF (strQ l) (l.length - i) i = true then .inr ((), ()) else .inl ((false, ()), ()))
  | 0, i, hi, hf => by omega
  | f + 1, i, hi, hf => by
    have ih := str_loop n hl f (i + 1)
    show cost_Straight.b0 n (it _ f) l (l.length : Int) (i : Int) = _
    generalize it (fun F (x : (List (Int × (Int × Int))) × Int × Int) => cost_Straight.b0 n F x.1 x.2.1 x.2.2) f = F at ih ⊢
    unfold cost_Straight.b0
    rcases Nat.lt_or_ge i l.length with hlt | hge
    · rw [if_pos (decide_eq_true (by omega)), if_pos (in_ix hlt), show l.length - i = (l.length - (i + 1)) + 1 by omega]
      rw [show allF (strQ l) (l.length - (i + 1) + 1) i = (strQ l i && allF (strQ l) (l.length - (i + 1)) (i + 1)) from rfl, next_ix (by omega), ih (by omega) (by omega)]
      simp only [Int.toNat_natCast]
      have hq : strQ l i = !(((l.getD i (0, 0, 0)).1 == 19 || (l.getD i (0, 0, 0)).1 == 20) && decide ((l.getD i (0, 0, 0)).2.1 > 0)) := rfl
      rw [hq]
      by_cases hA : (l.getD i (0, 0, 0)).2.1 > 0
      · have eA : decide ((l.getD i (0, 0, 0)).2.1 > 0) = true := decide_eq_true hA
        rcases Bool.eq_false_or_eq_true ((l.getD i (0, 0, 0)).1 == 19) with h1 | h1 <;> rcases Bool.eq_false_or_eq_true ((l.getD i (0, 0, 0)).1 == 20) with h2 | h2 <;> simp only [h1, h2, eA] <;> simp
      · have eA : decide ((l.getD i (0, 0, 0)).2.1 > 0) = false := decide_eq_false hA
        rcases Bool.eq_false_or_eq_true ((l.getD i (0, 0, 0)).1 == 19) with h1 | h1 <;> rcases Bool.eq_false_or_eq_true ((l.getD i (0, 0, 0)).1 == 20) with h2 | h2 <;> simp only [h1, h2, eA] <;> simp
    · have : i = l.length := by omega
      subst this
      rw [if_neg (by simp), Nat.sub_self]
      simp [allF]
theorem straight_is (n : Nat) (l : List Ins) (hl : l.length < n) (hn : n < 1000000) : cost_Straight.f n l = some (strB l) := by
  unfold cost_Straight.f cost_Straight.b0.l strB
  have h0 := str_loop n (l := l) (by omega) n 0 (Nat.zero_le _) (by omega)
  rw [show ((0 : Nat) : Int) = 0 from rfl, Nat.sub_zero] at h0
  rw [h0, Option.bind_some]
  rcases Bool.eq_false_or_eq_true (allF (strQ l) l.length 0) with hb | hb <;> rw [hb] <;> rfl
theorem sectS_len {l : List Ins} {m : List Int} {n : Nat} : ∀ (r i : Nat), (sectS l m n r i).length ≤ r
  | 0, i => Nat.le_refl _
  | r + 1, i => by
    have := sectS_len (l := l) (m := m) (n := n) r (i + 1)
    unfold sectS
    rw [List.length_append]
    split <;> simp <;> omega
end Go.Proofs.Dk

/- Plain: longest ways: what stands in a way is no longer than it. -/
namespace Go.Proofs.Dk
open Go
set_option maxRecDepth 100000
set_option linter.unusedVariables false
set_option linter.unusedSimpArgs false
theorem StepsI.nn {v : Int} (h : StepsI v) (h1 : v ≠ -1) : 0 ≤ v ∧ v ≤ 1048577 := h.elim (fun h => absurd h h1) id
theorem addI_le {a b c d : Int} (h : a ≤ b) (k : c ≤ d) : addI a c ≤ addI b d := by unfold addI; split <;> split <;> omega
theorem right_jump {A B o : Int} (ho : o = 19 ∨ o = 20) (h : rightI (o, A, B) = true) : 0 ≤ A ∧ A ≤ 199 := by
  rcases ho with rfl | rfl
  · have h1 := (right_is 0 (19, A, B)).symm.trans (opR19 0 A B)
    rw [h] at h1
    by_cases h2 : 0 ≤ A
    · by_cases h3 : A ≤ 199
      · exact ⟨h2, h3⟩
      · simp [h2, h3] at h1
    · simp [h2] at h1
  · have h1 := (right_is 0 (20, A, B)).symm.trans (opR20 0 A B)
    rw [h] at h1
    by_cases h2 : 0 ≤ A
    · by_cases h3 : A ≤ 199
      · exact ⟨h2, h3⟩
      · simp [h2, h3] at h1
    · simp [h2] at h1
theorem Reg.hop {l : List Ins} {m : List Int} {a z : Nat} (hR : Reg l m a z) {i : Nat} (h1 : a ≤ i) (h2 : i < z) : hopsI l m i ≠ [] ∧ ∀ k ∈ hopsI l m i, i < k ∧ k ≤ z := by
  unfold hopsI
  by_cases h21 : opAt l i = 21
  · rw [if_pos h21]
    obtain ⟨j, j1, j2, j3⟩ := hR.loop i h1 h2 (isOpen_iff.2 (.inl h21))
    refine ⟨by simp, fun k hk => ?_⟩
    have : k = mN m i + 1 := by simpa using hk
    unfold mN at this
    rw [j1] at this
    simp at this
    omega
  · rw [if_neg h21]
    by_cases h19 : opAt l i = 19
    · rw [if_pos h19]
      have := hR.jump i h1 h2 (.inl h19)
      refine ⟨by simp, fun k hk => ?_⟩
      have e : k = jumpTo l i := by simpa using hk
      subst e
      refine ⟨?_, this⟩
      unfold jumpTo
      omega
    · rw [if_neg h19]
      by_cases h20 : opAt l i = 20
      · rw [if_pos h20]
        have := hR.jump i h1 h2 (.inr h20)
        refine ⟨by simp, fun k hk => ?_⟩
        have e : k = jumpTo l i ∨ k = i + 1 := by simpa using hk
        rcases e with e | e
        · subst e
          refine ⟨?_, this⟩
          unfold jumpTo
          omega
        · omega
      · rw [if_neg h20]
        exact ⟨by simp, fun k hk => by
          have e : k = i + 1 := by simpa using hk
          omega⟩
theorem runW_add {b : Int → Int → Int} {W : Nat → Nat → Int} {l : List Ins} {m : List Int} : ∀ (r s i : Nat) (D : Nat → Int), runW b W l m (r + s) i D = runW b W l m s (i + r) (runW b W l m r i D)
  | 0, s, i, D => by rw [Nat.zero_add]; rfl
  | r + 1, s, i, D => by
    rw [show r + 1 + s = (r + s) + 1 by omega]
    show runW b W l m (r + s) (i + 1) _ = runW b W l m s (i + (r + 1)) (runW b W l m r (i + 1) _)
    rw [runW_add r s (i + 1), show i + 1 + r = i + (r + 1) by omega]
theorem runW_congr {b : Int → Int → Int} {W W' : Nat → Nat → Int} {l : List Ins} {m : List Int} : ∀ (r i : Nat) (D : Nat → Int), (∀ k, i ≤ k → k < i + r → opAt l k = 21 → W (k + 1) (mN m k) = W' (k + 1) (mN m k)) → runW b W l m r i D = runW b W' l m r i D
  | 0, i, D, h => rfl
  | r + 1, i, D, h => by
    have e : costI W l m i = costI W' l m i := by
      unfold costI
      by_cases e : opAt l i = 21
      · rw [if_pos e, if_pos e, h i (Nat.le_refl _) (by omega) e]
      · rw [if_neg e, if_neg e]
    have e2 : stepW b W l m i D = stepW b W' l m i D := by unfold stepW; rw [e]
    show runW b W l m r (i + 1) _ = runW b W' l m r (i + 1) _
    rw [e2]
    exact runW_congr r (i + 1) _ fun k h1 h2 => h k (by omega) (by omega)
theorem wayF_fuel {b : Int → Int → Int} {l : List Ins} {m h : List Int} (hF : Fine l m h) : ∀ (f g : Nat) {a z : Nat}, Reg l m a z → z - a < f → z - a < g → wayF b l m f a z = wayF b l m g a z
  | 0, g, a, z, hR, h1, h2 => by omega
  | f + 1, 0, a, z, hR, h1, h2 => by omega
  | f + 1, g + 1, a, z, hR, h1, h2 => by
    have hle := hR.le
    have hlt := hR.lt
    unfold wayF
    rw [runW_congr (z - a) a (startW a) fun k k1 k2 k3 => ?_]
    obtain ⟨j, j1, j2, j3⟩ := hR.loop k k1 (by omega) (isOpen_iff.2 (.inl k3))
    have hj : mN m k = j := by unfold mN; rw [j1]; rfl
    rw [hj]
    exact wayF_fuel hF f g (hj ▸ hF.reg (by omega) (isOpen_iff.2 (.inl k3))) (by omega) (by omega)
end Go.Proofs.Dk

/- Plain: sections stand in one another. -/
namespace Go.Proofs.Dk
open Go
set_option maxRecDepth 100000
set_option linter.unusedVariables false
set_option linter.unusedSimpArgs false
theorem fine_closed {l : List Ins} (h : locksI l = 0) : Fine l (scanI l).1 (scanI l).2.1 ∧ Closed l (scanI l).1 := ⟨whole_fine (locks_whole h), scanI_closed (whole_scan (locks_whole h))⟩
theorem put_le {D E : Nat → Int} (hD : ∀ k, StepsI (D k)) (hE : ∀ k, StepsI (E k)) (h : ∀ k, (D k = -1 ↔ E k = -1) ∧ D k ≤ E k) {k : Nat} {u v : Int} (huv : u ≤ v) (hu : 0 ≤ u) : ∀ j, (putI bL D k u j = -1 ↔ putI bM E k v j = -1) ∧ putI bL D k u j ≤ putI bM E k v j := fun j => by
  unfold putI
  by_cases e : j = k
  · subst e
    rw [if_pos rfl, if_pos rfl]
    obtain ⟨h1, h2⟩ := h j
    by_cases e2 : D j = -1
    · rw [if_pos e2, if_pos (h1.1 e2)]
      exact ⟨by constructor <;> intro <;> omega, huv⟩
    · have e3 : ¬ E j = -1 := fun k => e2 (h1.2 k)
      rw [if_neg e2, if_neg e3]
      have a1 := ((hD j).nn e2).1
      have a2 := ((hE j).nn e3).1
      unfold bL bM
      split <;> split <;> exact ⟨by constructor <;> intro <;> omega, by omega⟩
  · rw [if_neg e, if_neg e]
    exact h j
theorem puts_le {u v : Int} (huv : u ≤ v) (hu : 0 ≤ u ∧ u ≤ 1048577) (hv : v ≤ 1048577) : ∀ (ks : List Nat) {D E : Nat → Int}, (∀ k, StepsI (D k)) → (∀ k, StepsI (E k)) → (∀ k, (D k = -1 ↔ E k = -1) ∧ D k ≤ E k) → ∀ j, (ks.foldl (fun g k => putI bL g k u) D j = -1 ↔ ks.foldl (fun g k => putI bM g k v) E j = -1) ∧ ks.foldl (fun g k => putI bL g k u) D j ≤ ks.foldl (fun g k => putI bM g k v) E j
  | [], D, E, hD, hE, h, j => h j
  | k :: ks, D, E, hD, hE, h, j => puts_le huv hu hv ks (D := putI bL D k u) (E := putI bM E k v) (putI_ok bL_bet hD k hu) (putI_ok bM_bet hE k ⟨by omega, hv⟩) (put_le hD hE h huv hu.1) j
theorem loopI_le {v w A : Int} (hv : 0 ≤ v) (hvw : v ≤ w) (hw : w ≤ 1048577) (hA : 1 ≤ A) : loopI v A ≤ loopI w A := by
  have key : ∀ x : Int, 0 ≤ x → x ≤ 1048577 → (if x + 1 ≥ 1048577 then loopI x A = 1048577 else loopI x A = min (1 + A * (x + 1)) 1048577) := fun x hx hx2 => by
    unfold loopI
    by_cases h : x + 1 ≥ 1048577
    · rw [if_pos h]
      have : addI x 1 = 1048577 := by unfold addI; split <;> omega
      rw [if_pos this]
    · rw [if_neg h]
      have : addI x 1 = x + 1 := by unfold addI; split <;> omega
      rw [this, if_neg (by omega)]
      unfold addI
      omega
  have k1 := key v hv (by omega)
  have k2 := key w (by omega) hw
  have hm : A * (v + 1) ≤ A * (w + 1) := Int.mul_le_mul_of_nonneg_left (by omega) (by omega)
  have hb : loopI v A ≤ 1048577 := (loopI_cap v A)
  split at k1 <;> split at k2 <;> omega
where
  loopI_cap (v A : Int) : loopI v A ≤ 1048577 := by
    unfold loopI
    split
    · omega
    · unfold addI; split <;> omega
theorem run_le {W W' : Nat → Nat → Int} {l : List Ins} {m : List Int} (hr : ∀ i, i < l.length → rightI (l.getD i (0, 0, 0)) = true) : ∀ (r i : Nat) {D E : Nat → Int}, (∀ k, StepsI (D k)) → (∀ k, StepsI (E k)) → r + i ≤ l.length → (∀ k, i ≤ k → k < r + i → opAt l k = 21 → StepsI (W (k + 1) (mN m k)) ∧ StepsI (W' (k + 1) (mN m k)) ∧ 0 ≤ W (k + 1) (mN m k) ∧ W (k + 1) (mN m k) ≤ W' (k + 1) (mN m k)) → (∀ k, (D k = -1 ↔ E k = -1) ∧ D k ≤ E k) → ∀ j, (runW bL W l m r i D j = -1 ↔ runW bM W' l m r i E j = -1) ∧ runW bL W l m r i D j ≤ runW bM W' l m r i E j
  | 0, i, D, E, hD, hE, hl, hW, h, j => h j
  | r + 1, i, D, E, hD, hE, hl, hW, h, j => by
    have hWi := hW i (Nat.le_refl _) (by omega)
    have hri := hr i (by omega)
    have w1 := costI_ok hri (fun e => (hWi e).1)
    have w2 := costI_ok hri (fun e => (hWi e).2.1)
    have hc : costI W l m i ≤ costI W' l m i := by
      unfold costI
      by_cases e : opAt l i = 21
      · rw [if_pos e, if_pos e]
        obtain ⟨q1, q2, q3, q4⟩ := hWi e
        have hA : 1 ≤ argA l i := by
          have hri' := hri
          rw [show l.getD i (0, 0, 0) = (21, argA l i, (l.getD i (0, 0, 0)).2.2) from by rw [← e]] at hri'
          exact (right21 hri').1
        exact loopI_le q3 q4 (q2.nn (by omega)).2 hA
      · rw [if_neg e, if_neg e]; omega
    refine run_le hr r (i + 1) (stepW_ok bL_bet hD hri (fun e => (hWi e).1)) (stepW_ok bM_bet hE hri (fun e => (hWi e).2.1)) (by omega) (fun k h1 h2 => hW k (by omega) (by omega)) (fun k => ?_) j
    unfold stepW
    by_cases e : D i = -1
    · rw [if_pos e, if_pos ((h i).1.1 e)]
      exact h k
    · have e' : ¬ E i = -1 := fun x => e ((h i).1.2 x)
      rw [if_neg e, if_neg e']
      exact puts_le (addI_le (h i).2 hc) (addI_ok ((hD i).nn e).1 w1.1) (addI_ok ((hE i).nn e').1 w2.1).2 _ hD hE h k
theorem way_le {l : List Ins} {m h : List Int} (hF : Fine l m h) (hS : Come l) : ∀ (f : Nat) {a z : Nat}, Way l m a z → wayF bL l m f a z ≤ wayF bM l m f a z
  | 0, a, z, hR => Int.le_refl _
  | f + 1, a, z, hR => by
    have hlt := hR.reg.lt
    have hle := hR.reg.le
    refine (run_le (fun i hi => hF.right hi) (z - a) a (startW_ok a) (startW_ok a) (by omega) (fun k k1 k2 k3 => ?_) (fun k => ⟨Iff.rfl, Int.le_refl _⟩) z).2
    have hk := hF.way (show k < l.length by omega) (isOpen_iff.2 (.inl k3))
    exact ⟨wayF_ok bL_bet hF f hk.reg, wayF_ok bM_bet hF f hk.reg, (way_reach bL_bet hF hS f hk).1, way_le hF hS f hk⟩
theorem allI_err (n : Nat) (l : List Ins) (h : (allI bM n l).2 = 0) : (allI bL n l).2 = 0 ∧ 1 ≤ (allI bL n l).1 ∧ (allI bL n l).1 ≤ (allI bM n l).1 ∧ (allI bM n l).1 = wayF bM l (scanI l).1 n 0 (l.length - 1) + 1 ∧ (allI bM n l).1 ≤ 1048576 := by
  obtain ⟨h1, h2⟩ := all_zero h
  obtain ⟨hF, hC⟩ := fine_closed h1
  have hS := (come_is h2).2
  have r1 := way_reach bL_bet hF hS n hF.wayAll
  have r2 := way_reach bM_bet hF hS n hF.wayAll
  have r3 := way_le hF hS n hF.wayAll
  unfold allI at h ⊢
  rw [if_neg (show ¬ (locksI l ≠ 0) from fun k => k h1), if_neg (show ¬ (stacksI l ≠ 0) from fun k => k h2)] at h ⊢
  rw [if_neg (show ¬ (locksI l ≠ 0) from fun k => k h1), if_neg (show ¬ (stacksI l ≠ 0) from fun k => k h2)]
  split at h
  · cases h
  · rename_i hne
    rw [if_neg hne]
    unfold addI at hne ⊢
    split at hne
    · exact absurd rfl hne
    · rename_i h5
      rw [if_neg h5, if_neg (show ¬ (1048577 < wayF bL l (scanI l).1 n 0 (l.length - 1) + 1) by omega), if_neg (by omega)]
      exact ⟨rfl, by show 1 ≤ _ + 1; omega, by show _ + 1 ≤ _ + 1; omega, rfl, by show _ + 1 ≤ (1048576 : Int); omega⟩
end Go.Proofs.Dk

/- Plain: straight rows: each instruction is gone through. -/
namespace Go.Proofs.Dk
open Go
set_option maxRecDepth 100000
set_option linter.unusedVariables false
set_option linter.unusedSimpArgs false
def Str (l : List Ins) : Prop := ∀ k, k < l.length → opAt l k = 19 ∨ opAt l k = 20 → argA l k = 0
theorem strB_is {l : List Ins} (h : strB l = true) (hr : ∀ i, i < l.length → rightI (l.getD i (0, 0, 0)) = true) : Str l := fun k hk ho => by
  have h1 := allF_iff.1 h k (Nat.zero_le _) (by omega)
  unfold strQ at h1
  have h2 : 0 ≤ argA l k := by
    have h3 := hr k hk
    exact (right_jump (o := opAt l k) (A := argA l k) (B := (l.getD k (0, 0, 0)).2.2) ho h3).1
  have h3 : (opAt l k == 19 || opAt l k == 20) = true := by rcases ho with e | e <;> rw [e] <;> rfl
  rw [h3] at h1
  simp at h1
  omega
def nextS (l : List Ins) (m : List Int) (i : Nat) : Nat := if opAt l i = 21 then mN m i + 1 else i + 1
theorem str_hop {l : List Ins} {m : List Int} (h : Str l) {i : Nat} (hi : i < l.length) : hopsI l m i ≠ [] ∧ ∀ k ∈ hopsI l m i, k = nextS l m i := by
  unfold hopsI nextS
  have hj : opAt l i = 19 ∨ opAt l i = 20 → jumpTo l i = i + 1 := fun e => by
    have := h i hi e
    unfold jumpTo
    rw [show (l.getD i (0, 0, 0)).2.1 = 0 from this]
    rfl
  by_cases h21 : opAt l i = 21
  · rw [if_pos h21, if_pos h21]; simp
  · rw [if_neg h21, if_neg h21]
    by_cases h19 : opAt l i = 19
    · rw [if_pos h19, hj (.inl h19)]; simp
    · rw [if_neg h19]
      by_cases h20 : opAt l i = 20
      · rw [if_pos h20, hj (.inr h20)]; simp
      · rw [if_neg h20]; simp
def costU (W : Nat → Nat → Int) (l : List Ins) (m : List Int) (i : Nat) : Int := if opAt l i = 21 then 1 + argA l i * (W (i + 1) (mN m i) + 1) else 1
def runU (W : Nat → Nat → Int) (l : List Ins) (m : List Int) : Nat → Nat → Nat → Int → Int
  | 0, _, _, v => v
  | r + 1, i, k, v => if k = i then runU W l m r (i + 1) (nextS l m i) (v + costU W l m i) else runU W l m r (i + 1) k v
def wayU (l : List Ins) (m : List Int) : Nat → Nat → Nat → Int
  | 0, _, _ => 0
  | f + 1, a, z => runU (wayU l m f) l m (z - a) a a 0
def capI (v : Int) : Int := if 1048577 < v then 1048577 else v
theorem addI_cap {a b : Int} (ha : 0 ≤ a) (hb : 0 ≤ b) : addI (capI a) (capI b) = capI (a + b) := by unfold addI capI; split <;> split <;> split <;> (try split) <;> omega
theorem loopI_cap {w A : Int} (hw : 0 ≤ w) (hA : 1 ≤ A) : loopI (capI w) A = capI (1 + A * (w + 1)) := by
  have h0 : w + 1 ≤ A * (w + 1) := by
    have := Int.mul_le_mul_of_nonneg_right hA (show 0 ≤ w + 1 by omega)
    omega
  unfold loopI
  by_cases h : w + 1 ≥ 1048577
  · have : addI (capI w) 1 = 1048577 := by unfold addI capI; split <;> split <;> omega
    rw [if_pos this]
    unfold capI
    rw [if_pos (by omega)]
  · have : addI (capI w) 1 = w + 1 := by unfold addI capI; split <;> split <;> omega
    rw [this, if_neg (by omega)]
    unfold addI capI
    rfl
theorem foldl_same {b : Int → Int → Int} (hb : ∀ x, b x x = x) {v : Int} {q : Nat} (hv : v ≠ -1) : ∀ (ks : List Nat) {D : Nat → Int}, (∀ k ∈ ks, k = q) → (ks ≠ [] ∨ D q = v) → (D q = -1 ∨ D q = v) → ∀ j, ks.foldl (fun g k => putI b g k v) D j = if j = q then v else D j
  | [], D, hk, h1, h2, j => by
    rcases h1 with h | h
    · exact absurd rfl h
    · by_cases e : j = q
      · rw [if_pos e, e]; exact h
      · rw [if_neg e]; rfl
  | k :: ks, D, hk, h1, h2, j => by
    have e : k = q := hk k (List.mem_cons_self ..)
    subst e
    have hp : ∀ j, putI b D k v j = if j = k then v else D j := fun j => by
      unfold putI
      by_cases e : j = k
      · rw [if_pos e, if_pos e]
        by_cases e2 : D k = -1
        · rw [if_pos e2]
        · rw [if_neg e2]
          rcases h2 with h | h
          · exact absurd h e2
          · rw [h, hb]
      · rw [if_neg e, if_neg e]
    have := foldl_same hb hv ks (D := putI b D k v) (fun x hx => hk x (List.mem_cons_of_mem _ hx)) (.inr (by rw [hp, if_pos rfl])) (.inr (by rw [hp, if_pos rfl])) j
    rw [List.foldl_cons, this, hp]
    by_cases e : j = k
    · rw [if_pos e, if_pos e]
    · rw [if_neg e, if_neg e]
theorem nextS_gt {l : List Ins} {m : List Int} {a z : Nat} (hR : Reg l m a z) {i : Nat} (h1 : a ≤ i) (h2 : i < z) : i < nextS l m i ∧ nextS l m i ≤ z := by
  unfold nextS
  by_cases h21 : opAt l i = 21
  · rw [if_pos h21]
    obtain ⟨j, j1, j2, j3⟩ := hR.loop i h1 h2 (isOpen_iff.2 (.inl h21))
    unfold mN
    rw [j1]
    simp
    omega
  · rw [if_neg h21]; omega
theorem costU_ok {W : Nat → Nat → Int} {l : List Ins} {m : List Int} {i : Nat} (hr : rightI (l.getD i (0, 0, 0)) = true) (hW : opAt l i = 21 → 0 ≤ W (i + 1) (mN m i)) : 1 ≤ costU W l m i := by
  unfold costU
  by_cases e : opAt l i = 21
  · rw [if_pos e]
    have hri := hr
    rw [show l.getD i (0, 0, 0) = (21, argA l i, (l.getD i (0, 0, 0)).2.2) from by rw [← e]] at hri
    have hA := (right21 hri).1
    have h1 := hW e
    have := Int.mul_nonneg (show 0 ≤ argA l i by omega) (show 0 ≤ W (i + 1) (mN m i) + 1 by omega)
    omega
  · rw [if_neg e]; omega
theorem runU_ok {W : Nat → Nat → Int} {l : List Ins} {m : List Int} (hr : ∀ i, i < l.length → rightI (l.getD i (0, 0, 0)) = true) {a z : Nat} (hR : Reg l m a z) (hW : ∀ i, a ≤ i → i < z → opAt l i = 21 → 0 ≤ W (i + 1) (mN m i)) : ∀ (r i k : Nat) {v : Int}, a ≤ i → i + r = z → i ≤ k → k ≤ z → v ≤ runU W l m r i k v
  | 0, i, k, v, hi, hz, hk, hkz => Int.le_refl _
  | r + 1, i, k, v, hi, hz, hk, hkz => by
    unfold runU
    by_cases e : k = i
    · rw [if_pos e]
      obtain ⟨n1, n2⟩ := nextS_gt hR hi (by omega)
      have := runU_ok hr hR hW r (i + 1) (nextS l m i) (v := v + costU W l m i) (by omega) (by omega) (by omega) n2
      have := costU_ok (hr i (by have := hR.lt; omega)) (hW i hi (by omega))
      omega
    · rw [if_neg e]
      exact runU_ok hr hR hW r (i + 1) k (by omega) (by omega) (by omega) hkz
theorem wayU_nn {l : List Ins} {m h : List Int} (hF : Fine l m h) : ∀ (f : Nat) {a z : Nat}, Reg l m a z → 0 ≤ wayU l m f a z
  | 0, a, z, hR => Int.le_refl _
  | f + 1, a, z, hR => by
    have hle := hR.le
    have hlt := hR.lt
    exact runU_ok (fun i hi => hF.right hi) hR (fun i h1 h2 h3 => wayU_nn hF f (hF.reg (by omega) (isOpen_iff.2 (.inl h3)))) (z - a) a a (Nat.le_refl _) (by omega) (Nat.le_refl _) hle
theorem run_str {b : Int → Int → Int} (hb : Bet b) {W U : Nat → Nat → Int} {l : List Ins} {m : List Int} (hs : Str l) (hr : ∀ i, i < l.length → rightI (l.getD i (0, 0, 0)) = true) {a z : Nat} (hR : Reg l m a z) (hW : ∀ i, a ≤ i → i < z → opAt l i = 21 → 0 ≤ U (i + 1) (mN m i) ∧ W (i + 1) (mN m i) = capI (U (i + 1) (mN m i))) : ∀ (r i k : Nat) {v : Int} {D : Nat → Int}, a ≤ i → i + r = z → i ≤ k → k ≤ z → 0 ≤ v → (∀ j, i ≤ j → D j = if j = k then capI v else -1) → runW b W l m r i D z = capI (runU U l m r i k v)
  | 0, i, k, v, D, hi, hz, hk, hkz, hv, hD => by
    have : z = k := by omega
    show D z = capI v
    rw [hD z (by omega), if_pos this]
  | r + 1, i, k, v, D, hi, hz, hk, hkz, hv, hD => by
    have hlt := hR.lt
    have hc0 : ∀ x : Int, 0 ≤ x → capI x ≠ -1 := fun x hx => by unfold capI; split <;> omega
    have hself : ∀ x, b x x = x := fun x => by rcases hb x x with h | h <;> exact h
    show runW b W l m r (i + 1) (stepW b W l m i D) z = _
    unfold runU
    by_cases e : k = i
    · subst e
      rw [if_pos rfl]
      obtain ⟨n1, n2⟩ := nextS_gt hR hi (by omega)
      obtain ⟨o1, o2⟩ := str_hop (m := m) hs (show k < l.length by omega)
      have hcu := costU_ok (m := m) (W := U) (hr k (by omega)) (fun e => (hW k hi (by omega) e).1)
      refine run_str hb hs hr hR hW r (k + 1) (nextS l m k) (by omega) (by omega) n1 n2 (by omega) (fun j hj => ?_)
      have hDk : D k = capI v := by rw [hD k (Nat.le_refl _), if_pos rfl]
      have hcost : costI W l m k = capI (costU U l m k) := by
        unfold costI costU
        by_cases e : opAt l k = 21
        · rw [if_pos e, if_pos e]
          obtain ⟨w1, w2⟩ := hW k hi (by omega) e
          have hri := hr k (by omega)
          rw [show l.getD k (0, 0, 0) = (21, argA l k, (l.getD k (0, 0, 0)).2.2) from by rw [← e]] at hri
          rw [w2, loopI_cap w1 (right21 hri).1]
        · rw [if_neg e, if_neg e]; rfl
      unfold stepW
      rw [if_neg (by rw [hDk]; exact hc0 v hv), hDk, hcost, addI_cap hv (by omega)]
      rw [foldl_same hself (hc0 _ (by omega)) _ o2 (.inl o1) (.inl (by rw [hD _ (by omega), if_neg (by omega)]))]
      by_cases e : j = nextS l m k
      · rw [if_pos e, if_pos e]
      · rw [if_neg e, if_neg e, hD j (by omega), if_neg (by omega)]
    · rw [if_neg e]
      refine run_str hb hs hr hR hW r (i + 1) k (by omega) (by omega) (by omega) hkz hv (fun j hj => ?_)
      unfold stepW
      rw [if_pos (by rw [hD i (Nat.le_refl _), if_neg (fun h => e h.symm)])]
      exact hD j (by omega)
theorem way_str {b : Int → Int → Int} (hb : Bet b) {l : List Ins} {m h : List Int} (hF : Fine l m h) (hs : Str l) : ∀ (f : Nat) {a z : Nat}, Reg l m a z → wayF b l m f a z = capI (wayU l m f a z)
  | 0, a, z, hR => rfl
  | f + 1, a, z, hR => by
    have hle := hR.le
    have hlt := hR.lt
    refine run_str hb hs (fun i hi => hF.right hi) hR (fun i h1 h2 h3 => ?_) (z - a) a a (Nat.le_refl _) (by omega) (Nat.le_refl _) hle (Int.le_refl _) (fun j hj => rfl)
    have hq := hF.reg (show i < l.length by omega) (isOpen_iff.2 (.inl h3))
    exact ⟨wayU_nn hF f hq, way_str hb hF hs f hq⟩
end Go.Proofs.Dk

/- Plain: rows alike but for a loop's rounds. -/
namespace Go.Proofs.Dk
open Go
set_option maxRecDepth 100000
set_option linter.unusedVariables false
set_option linter.unusedSimpArgs false
structure Near (l l' : List Ins) (q : Nat) : Prop where
  len : l'.length = l.length
  else_ : ∀ i, i ≠ q → l'.getD i (0, 0, 0) = l.getD i (0, 0, 0)
  op : opAt l q = 21 ∧ opAt l' q = 21
theorem Near.opAt {l l' : List Ins} {q : Nat} (h : Near l l' q) (i : Nat) : opAt l' i = opAt l i := by
  by_cases e : i = q
  · subst e; rw [h.op.1, h.op.2]
  · unfold Go.Proofs.Dk.opAt; rw [h.else_ i e]
theorem Near.scanStep {l l' : List Ins} {q : Nat} (h : Near l l' q) (i : Nat) (m hh : List Int) (op : List (Int × Ins)) : scanStep (l'.getD i (0, 0, 0)) i m hh op = scanStep (l.getD i (0, 0, 0)) i m hh op := by
  by_cases e : i = q
  · subst e
    have h1 : (l.getD i (0, 0, 0)).1 = 21 := h.op.1
    have h2 : (l'.getD i (0, 0, 0)).1 = 21 := h.op.2
    unfold Go.Proofs.Dk.scanStep ends
    simp only [h1, h2, true_or, if_true]
  · rw [h.else_ i e]
theorem Near.scanS {l l' : List Ins} {q : Nat} (h : Near l l' q) : ∀ (r i : Nat) (m hh : List Int) (op : List (Int × Ins)), scanS l' r i m hh op = scanS l r i m hh op
  | 0, i, m, hh, op => rfl
  | r + 1, i, m, hh, op => by
    unfold Go.Proofs.Dk.scanS
    rw [h.scanStep]
    split
    · exact Near.scanS h r _ _ _ _
    · rfl
theorem Near.scanI {l l' : List Ins} {q : Nat} (h : Near l l' q) (h1 : (scanI l).2.2 = 0) (h2 : (Go.Proofs.Dk.scanI l').2.2 = 0) : Go.Proofs.Dk.scanI l' = Go.Proofs.Dk.scanI l := by
  have r1 := (scanI_nest h1).row
  have r2 := (scanI_nest h2).row
  unfold Go.Proofs.Dk.scanI
  rw [if_pos r1, if_pos r2, h.len, h.scanS]
theorem arg21 {l : List Ins} {i : Nat} (hr : rightI (l.getD i (0, 0, 0)) = true) (e : opAt l i = 21) : 1 ≤ argA l i ∧ argA l i ≤ 1000 := by
  rw [show l.getD i (0, 0, 0) = (21, argA l i, (l.getD i (0, 0, 0)).2.2) from by rw [← e]] at hr
  exact right21 hr
end Go.Proofs.Dk

/- Plain: how often each instruction can still come. -/
namespace Go.Proofs.Dk
open Go
set_option maxRecDepth 100000
set_option linter.unusedVariables false
set_option linter.unusedSimpArgs false
def prodA (A : Nat → Int) : List Nat → Int
  | [] => 1
  | k :: js => A k * prodA A js
theorem prodA_pos {A : Nat → Int} : ∀ {js : List Nat}, (∀ k ∈ js, 1 ≤ A k) → 1 ≤ prodA A js
  | [], _ => Int.le_refl _
  | k :: js, h => by
    have h1 := h k (List.mem_cons_self ..)
    have h2 := prodA_pos (js := js) fun q hq => h q (List.mem_cons_of_mem _ hq)
    unfold prodA
    have := Int.mul_le_mul h1 h2 (by omega) (by omega)
    omega
def vis (A : Nat → Int) : List Nat → List (Nat × Int) → Int → Int → Int
  | k :: js, (k', r) :: is, b, S => if k = k' then vis A js is b (S * A k + (r - 1)) else (b + S) * prodA A (k :: js)
  | js, _, b, S => (b + S) * prodA A js
theorem vis_nil (A : Nat → Int) (js : List Nat) (b S : Int) : vis A js [] b S = (b + S) * prodA A js := by
  cases js <;> rfl
theorem vis_nil2 (A : Nat → Int) (is : List (Nat × Int)) (b S : Int) : vis A [] is b S = b + S := by
  cases is <;> simp [vis, prodA]
theorem vis_nn {A : Nat → Int} : ∀ {js : List Nat} {is : List (Nat × Int)} {b S : Int}, (∀ k ∈ js, 1 ≤ A k) → (∀ e ∈ is, 1 ≤ e.2) → 0 ≤ b → 0 ≤ S → 0 ≤ vis A js is b S
  | js, [], b, S, hA, hr, hb, hS => by
    rw [vis_nil]
    exact Int.mul_nonneg (by omega) (by have := prodA_pos hA; omega)
  | [], e :: is, b, S, hA, hr, hb, hS => by rw [vis_nil2]; omega
  | k :: js, (k', r) :: is, b, S, hA, hr, hb, hS => by
    unfold vis
    split
    · have h1 := hr (k', r) (List.mem_cons_self ..)
      have h2 := hA k (List.mem_cons_self ..)
      have h3 : 0 ≤ S * A k := Int.mul_nonneg hS (by omega)
      exact vis_nn (fun q hq => hA q (List.mem_cons_of_mem _ hq)) (fun e he => hr e (List.mem_cons_of_mem _ he)) hb (by simp only at h1; omega)
    · exact Int.mul_nonneg (by omega) (by have := prodA_pos hA; omega)
theorem vis_all {A : Nat → Int} : ∀ {is : List (Nat × Int)} {js : List Nat} {b S : Int}, js = is.map (·.1) → ∃ T, ∀ b, vis A js is b S = b + T
  | [], js, b, S, h => by subst h; exact ⟨S, fun b => by rw [List.map_nil, vis_nil]; simp [prodA]⟩
  | (k, r) :: is, js, b, S, h => by
    subst h
    obtain ⟨T, hT⟩ := vis_all (A := A) (is := is) (b := b) (S := S * A k + (r - 1)) rfl
    refine ⟨T, fun b => ?_⟩
    rw [List.map_cons]
    unfold vis
    rw [if_pos rfl]
    exact hT b
theorem vis_mono {A : Nat → Int} : ∀ {js : List Nat} {is : List (Nat × Int)} {b b' S : Int}, (∀ k ∈ js, 1 ≤ A k) → b' ≤ b → vis A js is b' S ≤ vis A js is b S
  | js, [], b, b', S, hA, hb => by
    rw [vis_nil, vis_nil]
    exact Int.mul_le_mul_of_nonneg_right (by omega) (by have := prodA_pos hA; omega)
  | [], e :: is, b, b', S, hA, hb => by rw [vis_nil2, vis_nil2]; omega
  | k :: js, (k', r) :: is, b, b', S, hA, hb => by
    unfold vis
    split
    · exact vis_mono (fun q hq => hA q (List.mem_cons_of_mem _ hq)) hb
    · exact Int.mul_le_mul_of_nonneg_right (by omega) (by have := prodA_pos hA; omega)
theorem vis_in {A : Nat → Int} : ∀ (il : List (Nat × Int)) (k : Nat) (rest : List Nat) (S : Int), ∃ T, 0 ≤ T + 0 * S ∨ True → ∀ (r b : Int), vis A (il.map (·.1) ++ k :: rest) (il ++ [(k, r)]) b S = (b + (T * A k + (r - 1))) * prodA A rest ∧ vis A (il.map (·.1) ++ k :: rest) il b S = (b + T) * (A k * prodA A rest)
  | [], k, rest, S => ⟨S, fun _ r b => by
      simp only [List.map_nil, List.nil_append]
      refine ⟨?_, ?_⟩
      · unfold vis
        rw [if_pos rfl, vis_nil]
      · rw [vis_nil]; rfl⟩
  | (k0, r0) :: il, k, rest, S => by
    obtain ⟨T, hT⟩ := vis_in (A := A) il k rest (S * A k0 + (r0 - 1))
    refine ⟨T, fun _ r b => ?_⟩
    obtain ⟨h1, h2⟩ := hT (.inr trivial) r b
    simp only [List.map_cons, List.cons_append]
    refine ⟨?_, ?_⟩
    · unfold vis
      rw [if_pos rfl]
      exact h1
    · unfold vis
      rw [if_pos rfl]
      exact h2
theorem vis_out {A : Nat → Int} : ∀ (il : List (Nat × Int)) (js : List Nat) (k : Nat) (r b S : Int), k ∉ js → vis A js (il ++ [(k, r)]) b S = vis A js il b S
  | [], [], k, r, b, S, h => by rw [vis_nil2, vis_nil]; simp [prodA]
  | [], j :: js, k, r, b, S, h => by
    rw [vis_nil, List.nil_append]
    unfold vis
    rw [if_neg (fun (e : j = k) => h (by rw [e]; exact List.mem_cons_self ..))]
  | (k0, r0) :: il, [], k, r, b, S, h => by rw [vis_nil2, vis_nil2]
  | (k0, r0) :: il, j :: js, k, r, b, S, h => by
    rw [List.cons_append]
    unfold vis
    split
    · exact vis_out il js k r b _ fun hk => h (List.mem_cons_of_mem _ hk)
    · rfl
theorem lps_chain {l : List Ins} {m h : List Int} (hF : Fine l m h) {k j : Nat} (hk : k ∈ lps l m j) : ∃ rest, lps l m j = lps l m k ++ k :: rest := by
  obtain ⟨h1, h2⟩ := lps_mem hk
  have hkj := (enc_open h1).1
  have hko := (enc_open h1).2
  obtain ⟨z, z1, z2, z3⟩ := hF.nest.open_ k (open_lt hko) hko
  have hkz := (enc_iff hko z1).1 h1
  refine ⟨(List.range' (k + 1) (j - (k + 1))).filter fun q => enc l m q j && opAt l q == 21, ?_⟩
  unfold lps
  have e : List.range j = List.range k ++ k :: List.range' (k + 1) (j - (k + 1)) := by
    rw [List.range_eq_range', List.range_eq_range', ← List.range'_succ, show j - (k + 1) + 1 = j - k by omega]
    have := List.range'_append_1 (s := 0) (m := k) (n := j - k)
    rw [Nat.zero_add] at this
    rw [this]
    congr 1
    omega
  rw [e, List.filter_append, List.filter_cons, h1, h2]
  congr 1
  apply List.filter_congr
  intro x hx
  rw [List.mem_range] at hx
  congr 1
  apply bool_iff
  by_cases hxo : isOpen l x = true
  · obtain ⟨y, y1, y2, y3⟩ := hF.nest.open_ x (open_lt hxo) hxo
    rw [enc_iff hxo y1, enc_iff hxo y1]
    refine ⟨fun ⟨a1, a2⟩ => ⟨hx, by omega⟩, fun ⟨a1, a2⟩ => ⟨by omega, ?_⟩⟩
    have hyk : y ≠ k := fun hc => by
      have := hF.nest.clos x y (open_lt hxo) hxo y1
      rw [hc, hko] at this; cases this
    obtain ⟨q, q1, q2⟩ := hF.nest.cross x k y hx (by omega) (open_lt hxo) hxo hko y1
    rw [z1] at q1
    omega
  · exact ⟨fun h => absurd (enc_open h).2 hxo, fun h => absurd (enc_open h).2 hxo⟩
def sumI (f : Nat → Int) : Nat → Int
  | 0 => 0
  | n + 1 => sumI f n + f n
theorem sumI_le {f g : Nat → Int} : ∀ {n : Nat}, (∀ j, j < n → f j ≤ g j) → sumI f n ≤ sumI g n
  | 0, _ => Int.le_refl _
  | n + 1, h => by
    have h1 := sumI_le (n := n) fun j hj => h j (by omega)
    have h2 := h n (by omega)
    unfold sumI
    omega
theorem sumI_lt {f g : Nat → Int} {i : Nat} : ∀ {n : Nat}, i < n → (∀ j, j < n → f j ≤ g j) → f i + 1 ≤ g i → sumI f n + 1 ≤ sumI g n
  | 0, h, _, _ => by omega
  | n + 1, hi, h, h1 => by
    unfold sumI
    by_cases e : i = n
    · subst e
      have h2 := sumI_le (n := i) fun j hj => h j (by omega)
      omega
    · have h2 := sumI_lt (n := n) (by omega) (fun j hj => h j (by omega)) h1
      have h3 := h n (by omega)
      omega
theorem sumI_nn {f : Nat → Int} : ∀ {n : Nat}, (∀ j, j < n → 0 ≤ f j) → 0 ≤ sumI f n
  | 0, _ => Int.le_refl _
  | n + 1, h => by
    have h1 := sumI_nn (n := n) fun j hj => h j (by omega)
    have h2 := h n (by omega)
    unfold sumI
    omega
def visJ (l : List Ins) (m : List Int) (i : Nat) (rs : List (Nat × Int)) (j : Nat) : Int := vis (argA l) (lps l m j) rs (if i ≤ j then 1 else 0) 0
def phi (l : List Ins) (m : List Int) (i : Nat) (rs : List (Nat × Int)) : Int := sumI (visJ l m i rs) l.length
theorem lps_arg {l : List Ins} {m h : List Int} (hF : Fine l m h) (j : Nat) : ∀ k ∈ lps l m j, 1 ≤ argA l k := fun k hk => by
  obtain ⟨h1, h2⟩ := lps_mem hk
  exact (arg21 (hF.right (open_lt (enc_open h1).2)) h2).1
theorem visJ_nn {l : List Ins} {m h : List Int} (hF : Fine l m h) {i : Nat} {rs : List (Nat × Int)} (hr : ∀ e ∈ rs, 1 ≤ e.2) (j : Nat) : 0 ≤ visJ l m i rs j :=
  vis_nn (lps_arg hF j) hr (by split <;> decide) (by decide)
theorem phi_nn {l : List Ins} {m h : List Int} (hF : Fine l m h) {i : Nat} {rs : List (Nat × Int)} (hr : ∀ e ∈ rs, 1 ≤ e.2) : 0 ≤ phi l m i rs := sumI_nn fun j _ => visJ_nn hF hr j
theorem phi_on {l : List Ins} {m h : List Int} (hF : Fine l m h) {i q : Nat} (hi : i < l.length) (hq : i < q) {rs : List (Nat × Int)} (he : rs.map (·.1) = lps l m i) : phi l m q rs + 1 ≤ phi l m i rs := by
  refine sumI_lt hi (fun j hj => ?_) ?_
  · exact vis_mono (lps_arg hF j) (by split <;> split <;> omega)
  · unfold visJ
    obtain ⟨T, hT⟩ := vis_all (A := argA l) (is := rs) (js := lps l m i) (b := 0) (S := 0) he.symm
    rw [hT, hT, if_pos (Nat.le_refl _), if_neg (by omega)]
    omega
theorem in_after {l : List Ins} {m : List Int} {k j : Nat} (h : k ∈ lps l m j) : k + 1 ≤ j := (enc_open (lps_mem h).1).1
theorem phi_loop {l : List Ins} {m h : List Int} (hF : Fine l m h) {i : Nat} (hi : i < l.length) {rs : List (Nat × Int)} (he : rs.map (·.1) = lps l m i) : phi l m (i + 1) (rs ++ [(i, argA l i)]) + 1 ≤ phi l m i rs := by
  have hni : i ∉ lps l m i := fun h => by have := in_after h; omega
  refine sumI_lt hi (fun j hj => ?_) ?_
  · unfold visJ
    by_cases hk : i ∈ lps l m j
    · obtain ⟨rest, hr⟩ := lps_chain hF hk
      have hj := in_after hk
      rw [hr, ← he]
      obtain ⟨T, hT⟩ := vis_in (A := argA l) rs i rest 0
      obtain ⟨h1, h2⟩ := hT (.inr trivial) (argA l i) 1
      rw [if_pos (by omega), if_pos (by omega), h1, h2, ← Int.mul_assoc]
      refine Int.le_of_eq (congrArg (· * _) ?_)
      rw [Int.add_mul]
      omega
    · rw [vis_out rs _ i _ _ _ hk]
      exact vis_mono (lps_arg hF j) (by split <;> split <;> omega)
  · unfold visJ
    rw [vis_out rs _ i _ _ _ hni]
    obtain ⟨T, hT⟩ := vis_all (A := argA l) (is := rs) (js := lps l m i) (b := 0) (S := 0) he.symm
    rw [hT, hT, if_pos (Nat.le_refl _), if_neg (by omega)]
    omega
theorem phi_next {l : List Ins} {m h : List Int} (hF : Fine l m h) {i k : Nat} (hi : i < l.length) (hki : k < i) (hk21 : opAt l k = 21) (hm : m.getD k 0 = (i : Int)) (e1 : lps l m i = lps l m k ++ [k]) {rs : List (Nat × Int)} (he : rs.map (·.1) = lps l m k) {r : Int} :
    phi l m (k + 1) (rs ++ [(k, r - 1)]) + 1 ≤ phi l m i (rs ++ [(k, r)]) ∧ (r = 1 → phi l m (i + 1) rs + 1 ≤ phi l m i (rs ++ [(k, r)])) := by
  have hko := isOpen_op (.inl hk21)
  have hin : ∀ j, k ∈ lps l m j ↔ k + 1 ≤ j ∧ j ≤ i := fun j => by
    constructor
    · intro h
      have := (enc_iff hko hm).1 (lps_mem h).1
      omega
    · intro hj
      unfold lps
      rw [List.mem_filter, List.mem_range, (enc_iff hko hm).2 ⟨by omega, by omega⟩, hk21]
      exact ⟨by omega, rfl⟩
  have hkey : ∀ j, k ∈ lps l m j → ∃ rest T, 1 ≤ prodA (argA l) rest ∧ ∀ r b : Int, vis (argA l) (lps l m j) (rs ++ [(k, r)]) b 0 = (b + (T * argA l k + (r - 1))) * prodA (argA l) rest ∧ vis (argA l) (lps l m j) rs b 0 = (b + T) * (argA l k * prodA (argA l) rest) := fun j hk => by
    obtain ⟨rest, hr⟩ := lps_chain hF hk
    obtain ⟨T, hT⟩ := vis_in (A := argA l) rs k rest 0
    refine ⟨rest, T, prodA_pos fun q hq => lps_arg hF j q (by rw [hr]; exact List.mem_append_right _ (List.mem_cons_of_mem _ hq)), fun r b => ?_⟩
    rw [hr, ← he]
    exact hT (.inr trivial) r b
  have hi2 : k ∈ lps l m i := (hin i).2 ⟨by omega, Nat.le_refl _⟩
  have hkey2 : ∃ T, ∀ r b : Int, vis (argA l) (lps l m i) (rs ++ [(k, r)]) b 0 = b + (T * argA l k + (r - 1)) ∧ vis (argA l) (lps l m i) rs b 0 = (b + T) * argA l k := by
    obtain ⟨T, hT⟩ := vis_in (A := argA l) rs k [] 0
    refine ⟨T, fun r b => ?_⟩
    rw [e1, ← he]
    have := hT (.inr trivial) r b
    simp only [prodA, Int.mul_one] at this
    exact this
  refine ⟨sumI_lt hi (fun j hj => ?_) ?_, fun hr1 => sumI_lt hi (fun j hj => ?_) ?_⟩
  · unfold visJ
    by_cases hk : k ∈ lps l m j
    · obtain ⟨rest, T, hp, hT⟩ := hkey j hk
      have := (hin j).1 hk
      rw [(hT _ _).1, (hT _ _).1]
      refine Int.mul_le_mul_of_nonneg_right ?_ (by omega)
      rw [if_pos (by omega)]
      split <;> omega
    · rw [vis_out rs _ k _ _ _ hk, vis_out rs _ k _ _ _ hk]
      refine vis_mono (lps_arg hF j) ?_
      have : ¬ (k + 1 ≤ j ∧ j ≤ i) := fun h => hk ((hin j).2 h)
      split <;> split <;> omega
  · unfold visJ
    obtain ⟨T, hT⟩ := hkey2
    rw [(hT _ _).1, (hT _ _).1, if_pos (by omega), if_pos (Nat.le_refl _)]
    omega
  · subst hr1
    unfold visJ
    by_cases hk : k ∈ lps l m j
    · obtain ⟨rest, T, hp, hT⟩ := hkey j hk
      have := (hin j).1 hk
      rw [(hT 1 _).2, (hT 1 _).1, ← Int.mul_assoc]
      refine Int.mul_le_mul_of_nonneg_right ?_ (by omega)
      rw [if_neg (by omega), Int.zero_add]
      split <;> omega
    · rw [vis_out rs _ k _ _ _ hk]
      refine vis_mono (lps_arg hF j) ?_
      split <;> split <;> omega
  · subst hr1
    unfold visJ
    obtain ⟨T, hT⟩ := hkey2
    rw [(hT 1 _).2, (hT 1 _).1, if_neg (by omega), if_pos (Nat.le_refl _), Int.zero_add]
    omega
end Go.Proofs.Dk
