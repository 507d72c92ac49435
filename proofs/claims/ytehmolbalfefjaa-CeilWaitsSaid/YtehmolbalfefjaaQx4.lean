-- by myprint.py (NOTES.md): the machine side, out of Lean's own print of the program
import Derived.Test.YtehmolbalfefjaaQx0
import Derived.Test.YtehmolbalfefjaaQx1
import Derived.Test.YtehmolbalfefjaaQx3
namespace Go.Proofs.Ytehmolbalfefjaa.Q
open Go.RowKit Go.Proofs.YtehmolbalfefjaaW.PrintWords Go.Proofs.YtehmolbalfefjaaW.PrintLast Go.Proofs.YtehmolbalfefjaaW.PrintMore
attribute [local go_sem] max2_int min2_int max_two min_two max_three min_three max_four min_four   -- for this text's walks alone
set_option linter.unusedVariables false
set_option linter.unusedSimpArgs false

-- GIVEN ceil_Ceilings
open Go.Proofs.YtehmolbalfefjaaH
/-! #### plain: lists by index -/
theorem drop_getD {α : Type} (xs : List α) (z : α) (i : Int) (h0 : 0 ≤ i) (h1 : i < xs.length) : xs.drop i.toNat = xs.getD i.toNat z :: xs.drop (i + 1).toNat := by
  have h : i.toNat < xs.length := by omega
  rw [show (i + 1).toNat = i.toNat + 1 from by omega, List.drop_eq_getElem_cons h]
  simp [List.getD_eq_getElem?_getD, List.getElem?_eq_getElem h]
theorem drop_rd (xs : List Int) (i : Int) (h0 : 0 ≤ i) (h1 : i < xs.length) : xs.drop i.toNat = rd xs i :: xs.drop (i + 1).toNat := drop_getD xs 0 i h0 h1
theorem drop_T37 (xs : List S37) (i : Int) (h0 : 0 ≤ i) (h1 : i < xs.length) : xs.drop i.toNat = rd_T37 xs i :: xs.drop (i + 1).toNat := drop_getD xs z37 i h0 h1
theorem drop_end {α : Type} (xs : List α) (i : Int) (h1 : (xs.length : Int) ≤ i) : xs.drop i.toNat = [] := List.drop_eq_nil_of_le (by omega)

/-! #### Right, plainly -/
/-- Blocks rise from 'last' on, below 'blocks'; each len is 0 to 2^40. -/
def chkB (blocks : Int) : Int → List Int → List Int → Bool
  | _, [], _ => true
  | _, _ :: _, [] => false
  | last, b :: bs, n :: ns => if b ≤ last then false else if b ≥ blocks then false else if n < 0 then false else if n > 1099511627776 then false else chkB blocks b bs ns
def useOk (blocks : Int) (u : S37) : Bool :=
  if u.f0 < 1 then false else if u.f0 > 100 then false else if u.f1.length ≠ u.f2.length then false else chkB blocks (-1) u.f1 u.f2
def ceilOk (blocks : Int) (l : List S37) : Bool := l.all (useOk blocks) && decide (0 ≤ blocks) && decide (blocks ≤ 8) && decide (l.length ≤ 8)

theorem use_l0 (f0 : Int) (f1 f2 : List Int) (blocks : Int) (hl : f1.length = f2.length) (hm : (f1.length : Int) ≤ 9223372036854775807) (d : Nat) : ∀ (k : Nat) (i last : Int), 0 ≤ i → i + d = f1.length → d < k →
    ceil_Use_right.l0 k blocks last f1 (f1.length : Int) i f0 f1 f2 = some (chkB blocks last (f1.drop i.toNat) (f2.drop i.toNat)) := by
  induction d with
  | zero =>
    intro k i last h0 h1 hk
    obtain ⟨k, rfl⟩ : ∃ m, k = m + 1 := ⟨k - 1, by omega⟩
    simp only [ceil_Use_right.l0]
    rw [if_neg (by omega), drop_end f1 i (by omega)]
    rfl
  | succ d ih =>
    intro k i last h0 h1 hk
    obtain ⟨k, rfl⟩ : ∃ m, k = m + 1 := ⟨k - 1, by omega⟩
    simp only [ceil_Use_right.l0]
    rw [if_pos (by omega), if_pos h0, if_pos (by omega), drop_rd f1 i h0 (by omega), drop_rd f2 i h0 (by omega)]
    simp only [chkB]
    rw [if_pos (show i < (f2.length : Int) by omega), show wrap64 (i + 1) = i + 1 from by unfold wrap64; omega, ih k (i + 1) (rd f1 i) (by omega) (by omega) (by omega)]
    repeat' split
    all_goals first | rfl | omega
theorem use_spec (u : S37) (blocks : Int) (hm : (u.f1.length : Int) ≤ 9223372036854775807) (k : Nat) (hk : u.f1.length + 1 < k) : ceil_Use_right.f k u.f0 u.f1 u.f2 blocks = some (useOk blocks u) := by
  obtain ⟨k, rfl⟩ : ∃ m, k = m + 1 := ⟨k - 1, by omega⟩
  unfold ceil_Use_right.f useOk
  simp only [ceil_Use_right.j0]
  split
  · simp
  · split
    · simp
    · by_cases hl : u.f1.length = u.f2.length
      · have h := use_l0 u.f0 u.f1 u.f2 blocks hl hm u.f1.length k 0 (-1) (by omega) (by omega) (by omega)
        simp only [Int.toNat_zero, List.drop_zero] at h
        simp [hl] at h ⊢
        exact h
      · have : ((u.f1.length : Int) != (u.f2.length : Int)) = true := by simp; omega
        simp [this, hl]

def usesMax : List S37 → Nat
  | [] => 0
  | u :: l => max u.f1.length (usesMax l)
theorem usesMax_mem {l : List S37} {u : S37} (h : u ∈ l) : u.f1.length ≤ usesMax l := by
  induction l with
  | nil => cases h
  | cons v l ih =>
    simp only [usesMax]
    rcases List.mem_cons.1 h with rfl | h
    · omega
    · have := ih h; omega
theorem right_l0 (blocks : Int) (l : List S37) (hm : (l.length : Int) ≤ 9223372036854775807) (hu : ∀ u ∈ l, (u.f1.length : Int) ≤ 9223372036854775807) (d : Nat) : ∀ (k : Nat) (i : Int), 0 ≤ i → i + d = l.length → d + usesMax l + 2 < k →
    ceil_Right.l0 k blocks l l (l.length : Int) i = some ((l.drop i.toNat).all (useOk blocks) && decide (0 ≤ blocks) && decide (blocks ≤ 8) && decide (l.length ≤ 8)) := by
  induction d with
  | zero =>
    intro k i h0 h1 hk
    obtain ⟨k, rfl⟩ : ∃ m, k = m + 1 := ⟨k - 1, by omega⟩
    simp only [ceil_Right.l0]
    rw [if_neg (by omega), drop_end l i (by omega)]
    by_cases a : blocks ≥ 0
    · by_cases b : blocks ≤ 8
      · simp [a, b]; omega
      · simp [a, b]
    · simp [a]
  | succ d ih =>
    intro k i h0 h1 hk
    obtain ⟨k, rfl⟩ : ∃ m, k = m + 1 := ⟨k - 1, by omega⟩
    have hmem := rd_use_mem l i h0 (by omega)
    simp only [ceil_Right.l0]
    rw [if_pos (by omega), if_pos h0, if_pos (by omega), drop_T37 l i h0 (by omega), use_spec _ blocks (hu _ hmem) k (by have := usesMax_mem hmem; omega), show wrap64 (i + 1) = i + 1 from by unfold wrap64; omega, ih k (i + 1) (by omega) (by omega) (by omega)]
    simp only [Option.bind_some, List.all_cons]
    cases useOk blocks (rd_T37 l i) <;> simp
theorem right_spec (blocks : Int) (l : List S37) (hm : (l.length : Int) ≤ 9223372036854775807) (hu : ∀ u ∈ l, (u.f1.length : Int) ≤ 9223372036854775807) (k : Nat) (hk : l.length + usesMax l + 2 < k) : ceil_Right.f k blocks l = some (ceilOk blocks l) := by
  have := right_l0 blocks l hm hu l.length k 0 (by omega) (by omega) hk
  simp only [Int.toNat_zero, List.drop_zero] at this
  exact this
attribute [local go_sem] max2_int min2_int max_two min_two max_three min_three max_four min_four
theorem enter41 (a : Array Value) (W : World) : (callFunc 41 a).run Try.prog W = .ok (.enter 41 a) W := by kernel_rfl
theorem enter43 (a : Array Value) (W : World) : (callFunc 43 a).run Try.prog W = .ok (.enter 43 a) W := by kernel_rfl

/-- Ceilings' closure: c[block] = max(c[block], u.Prio). -/
def ceilStp (u : S37) (b _n : Int) (cs : List Int) : List Int := cs.set b.toNat (mx (rd cs b) u.f0)
def CeilI (V G n : Nat) (cs : List Int) (W : World) : Prop :=
  W.heap[V]? = some (.cells #[.slice (some ⟨G, 0, none⟩) n n] 30 (0, 0)) ∧ W.heap[G]? = some (.cells (nums .i64 cs).toArray 3 (0, 0)) ∧ cs.length = n ∧ V ≠ G
theorem ceilStp_length (u : S37) (b n : Int) (cs : List Int) : (ceilStp u b n cs).length = cs.length := by simp [ceilStp]
theorem cell_nums {W : World} {G : Nat} {k : IntKind} {cs : List Int} {t : TypeId} (h : W.heap[G]? = some (.cells (nums k cs).toArray t (0, 0))) (i : Int) (h0 : 0 ≤ i) (h1 : i < cs.length) : W.cell? ⟨G, i.toNat, none⟩ = some (.int k (rd cs i)) := by
  have hi : i.toNat < cs.length := by omega
  refine (blk_cell h i.toNat).trans ?_
  simp [nums, rd, List.getD_eq_getElem?_getD, List.getElem?_eq_getElem hi]
theorem set_nums {W : World} {G : Nat} {k : IntKind} {cs : List Int} {t : TypeId} (h : W.heap[G]? = some (.cells (nums k cs).toArray t (0, 0))) (i : Nat) (v : Int) : (W.setCell ⟨G, i, none⟩ (.int k v)).heap[G]? = some (.cells (nums k (cs.set i v)).toArray t (0, 0)) := by
  have := blk_set h i (.int k v)
  rw [this]
  congr 2
  simp [nums, List.map_set]

theorem madeNums (n : Nat) : madeCells #[Value.int .i64 0] n = (nums .i64 (List.replicate n 0)).toArray := by
  apply Array.ext
  · simp [madeCells, nums]
  · intro i h1 h2
    simp [madeCells, nums, Nat.mod_one]
theorem row_nums {G n : Nat} {cs : List Int} {W : World} {B : Nat} (hG : W.heap[G]? = some (.cells (nums .i64 cs).toArray 3 (0, 0))) (hl : cs.length = n) (hB : B ≤ G) (hn : n ≤ 1000000) : Kd.R (Kd.int .i64) 3 W B (fun _ => True) (.slice (some ⟨G, 0, none⟩) n n) cs := by
  subst hl
  exact ⟨fun _ _ => trivial, nums .i64 cs, ⟨by simp [nums, Kd.int, Kd.scalar], .inr ⟨G, cs.length, (nums .i64 cs).toArray, rfl, hB, hG, Nat.le_refl _, by unfold maxLen; omega, by simp [nums, Kd.int, Kd.scalar], by simp [nums, Kd.int, Kd.scalar, List.take_of_length_le]⟩⟩, Kd.reps_scalar cs⟩
set_option maxHeartbeats 1000000 in
theorem cb41 (w : World) (u0 b n : Int) (v1 v2 : Value) (V G m : Nat) (cs : List Int) (h : CeilI V G m cs w) (h0 : 0 ≤ b) (h1 : b < cs.length) :
   Calls Try.prog 41 #[.agg #[.int .i64 u0, v1, v2], .int .i64 b, .int .i64 n, .pointer (some ⟨V, 0, none⟩)] w fun e w' =>
     e = .returned (.tuple #[]) ∧ CeilI V G m (cs.set b.toNat (mx (rd cs b) u0)) w' ∧ Chg (· = G) w w' := by
  have hu37 := Try.underlying37
  obtain ⟨hV, hG, hl, hne⟩ := h
  have HG := Aside0.mk hG
  have HVV := Aside0.mk hV
  have HNE := Aside0.mk hne
  have HL := Aside0.mk hl
  have hV0 : w.cell? ⟨V, 0, none⟩ = some (.slice (some ⟨G, 0, none⟩) m m) := (blk_cell hV 0).trans rfl
  have hG0 := cell_nums hG b h0 h1
  have hF0 := blk_frozen hG b.toNat
  have hVl := World.block_lt_of_cell? w _ hV0
  have hGl := World.block_lt_of_cell? w _ hG0
  have hm : b < (m : Int) := by omega
  clear hV hG hl hne
  generalize hx : rd cs b = x at *
  have HX := Aside0.mk hx
  clear hx
  go_enter Try.func41, Try.ntmps41
  go_wp2
  go_region
  all_goals go_end0
  all_goals refine ⟨rfl, ⟨?_, ?_, ?_, HNE.out⟩, ?_⟩
  · exact ((Below.heap_alloc _ _ _ (by simpa [World.setCell] using hVl)).trans ((Below.heap_setCell _ _ _ _ HNE.out).trans HVV.out))
  · exact ((Below.heap_alloc _ _ _ (by simpa [World.setCell] using hGl)).trans (set_nums HG.out _ _))
  · rw [List.length_set]; exact HL.out
  · exact (((Chg.refl (· = G) w).setCell (p := ⟨G, b.toNat, none⟩) (.inl rfl) _).alloc _).drew

theorem ite_ft {c : Prop} [Decidable c] {x : Bool} : (if c then false else x) = true ↔ ¬ c ∧ x = true := by split <;> simp [*]
theorem chk_len {blocks : Int} : ∀ {last : Int} {f1 f2 : List Int}, chkB blocks last f1 f2 = true → f1.length = f2.length → last + f1.length < blocks ∨ f1 = []
  | _, [], _, _, _ => .inr rfl
  | last, b :: bs, [], h, _ => by simp [chkB] at h
  | last, b :: bs, n :: ns, h, hl => by
    simp only [chkB, ite_ft] at h
    obtain ⟨h1, h2, h3, h4, h⟩ := h
    have hl2 : bs.length = ns.length := by simpa using hl
    rcases chk_len h hl2 with h2 | rfl
    · left; simp only [List.length_cons]; omega
    · left; simp; omega
theorem useOk_len {blocks : Int} {u : S37} (h : useOk blocks u = true) (hb : blocks ≤ 8) : u.f1.length ≤ 8 ∧ u.f1.length = u.f2.length := by
  simp only [useOk, ite_ft] at h
  obtain ⟨h1, h2, hl, h⟩ := h
  have hl : u.f1.length = u.f2.length := by omega
  refine ⟨?_, hl⟩
  rcases chk_len h hl with h2 | h2
  · omega
  · simp [h2]
theorem chk_rd {blocks : Int} : ∀ {last : Int} {f1 f2 : List Int}, chkB blocks last f1 f2 = true → -1 ≤ last → ∀ b ∈ f1, 0 ≤ b ∧ b < blocks
  | _, [], _, _, _, b, hb => by cases hb
  | last, b :: bs, [], h, _, _, _ => by simp [chkB] at h
  | last, b :: bs, n :: ns, h, hl, x, hx => by
    simp only [chkB, ite_ft] at h
    obtain ⟨h1, h2, h3, h4, h⟩ := h
    rcases List.mem_cons.1 hx with rfl | hx
    · omega
    · exact chk_rd h (by omega) x hx
theorem useOk_rd {blocks : Int} {u : S37} (h : useOk blocks u = true) : ∀ b ∈ u.f1, 0 ≤ b ∧ b < blocks := by
  simp only [useOk, ite_ft] at h
  obtain ⟨h1, h2, hl, h⟩ := h
  exact chk_rd h (by omega)
theorem rd_mem (xs : List Int) (i : Int) (h0 : 0 ≤ i) (h1 : i < xs.length) : rd xs i ∈ xs := by
  have h : i.toNat < xs.length := by omega
  unfold rd; simp [List.getD_eq_getElem?_getD, List.getElem?_eq_getElem h]
theorem C_len {α : Type} {d : Kd α} {w : World} {A : Option Addr} {n : Nat} {xs : List α} (h : d.C w A n xs) : n ≤ 9223372036854775807 := h.2.1
theorem mem_T37 {l : List S37} {u : S37} (h : u ∈ l) : ∃ i : Int, 0 ≤ i ∧ i < l.length ∧ rd_T37 l i = u := by
  obtain ⟨n, hn, rfl⟩ := List.mem_iff_getElem.1 h
  exact ⟨n, by omega, by omega, by unfold rd_T37; simp [List.getD_eq_getElem?_getD, List.getElem?_eq_getElem hn]⟩
theorem C_use_len {w : World} {A : Option Addr} {l : List S37} (h : Kd.C k37 w A l.length l) : ∀ u ∈ l, (u.f1.length : Int) ≤ 9223372036854775807 := by
  intro u hu
  obtain ⟨i, h0, h1, rfl⟩ := mem_T37 hu
  obtain ⟨_, _, _, _, _, _, _, _, _, _, hi1, _, _⟩ := at_T37 h i h0 h1
  have := C_len hi1
  omega
theorem right_out {w : World} {A : Option Addr} {l : List S37} {blocks : Int} {k : Nat} {r : Bool} (hr : Kd.C k37 w A l.length l) (h : ceil_Right.f k blocks l = some r) : r = ceilOk blocks l := by
  have h1 := right_spec blocks l (by have := C_len hr; omega) (C_use_len hr) (k + (l.length + usesMax l + 3)) (by omega)
  have h2 := at_rounds (g := fun k => ceil_Right.f k blocks l) (fun k => ceil_Right.mono _ _ k) (show k ≤ k + (l.length + usesMax l + 3) by omega) h
  rw [show ceil_Right.f (k + (l.length + usesMax l + 3)) blocks l = some r from h2] at h1
  exact Option.some.inj h1
theorem ceilOk_parts {blocks : Int} {l : List S37} (h : ceilOk blocks l = true) : (∀ u ∈ l, useOk blocks u = true) ∧ 0 ≤ blocks ∧ blocks ≤ 8 ∧ l.length ≤ 8 := by
  simp only [ceilOk, Bool.and_eq_true, decide_eq_true_eq, List.all_eq_true] at h
  exact ⟨h.1.1.1, h.1.1.2, h.1.2, h.2⟩

/-! ### ceil_Ceilings: function -/
def ceilingsP (blocks : Int) (l : List S37) : List Int := eachOut ceilStp l 0 l.length (List.replicate blocks.toNat 0)
def ceil_Ceilings.f (k : Nat) (a0 : Int) (l1 : List S37) : Option (List Int) := (ceil_Right.f k a0 l1).bind fun t => if t = true then some (ceilingsP a0 l1) else some []
theorem ceil_Ceilings.mono : ∀ a0 a1 k, LeO (ceil_Ceilings.f k a0 a1) (ceil_Ceilings.f (k + 1) a0 a1) := by
  intro a0 a1 k
  exact LeO.bind (ceil_Right.mono _ _ _) (fun _ => LeO.refl _)
theorem eachIn_len {f : List Int → Nat} {stp : S37 → Int → Int → List Int → List Int} (hs : ∀ u b n s, f (stp u b n s) = f s) (u : S37) : ∀ (n : Nat) (i : Int) (s : List Int), f (eachIn stp u i n s) = f s
  | 0, _, _ => rfl
  | n + 1, i, s => by simp only [eachIn]; rw [eachIn_len hs u n]; exact hs _ _ _ _
theorem eachOut_len {f : List Int → Nat} {stp : S37 → Int → Int → List Int → List Int} (hs : ∀ u b n s, f (stp u b n s) = f s) (l : List S37) : ∀ (n : Nat) (i : Int) (s : List Int), f (eachOut stp l i n s) = f s
  | 0, _, _ => rfl
  | n + 1, i, s => by simp only [eachOut]; rw [eachOut_len hs l n]; exact eachIn_len hs _ _ _ _
theorem ceilingsP_length (blocks : Int) (l : List S37) : (ceilingsP blocks l).length = blocks.toNat := by
  unfold ceilingsP
  rw [eachOut_len (f := List.length) (fun u b n s => ceilStp_length u b n s)]
  simp
set_option maxHeartbeats 4000000 in
set_option maxRecDepth 100000 in
theorem ceil_Ceilings.made (k : Nat) (a0 : Int) (A1 : Option Addr) (c1 : Nat) (l1 : List S37) (r : List Int) (w : World) (hr1 : Kd.C k37 w A1 l1.length l1) (hc1 : l1.length ≤ c1) (ht : ceil_Right.f k a0 l1 = some true) (h : ceilingsP a0 l1 = r) :
    Calls Try.prog 21 #[.int .i64 a0, .slice A1 l1.length c1] w fun e w' => ∃ G : Nat, e = .returned (.slice (some ⟨G, 0, none⟩) a0.toNat a0.toNat) ∧ w'.heap[G]? = some (.cells (nums .i64 r).toArray 3 (0, 0)) ∧ w.heap.size ≤ G ∧ Below w.heap.size w w' := by
  have hu37 := Try.underlying37
  have hok := right_out hr1 ht
  have HR := Aside0.mk hr1
  have HC := Aside0.mk hc1
  have HT := Aside0.mk ht
  clear hr1 hc1 ht
  obtain ⟨hu, hb0, hb8, hl8⟩ := ceilOk_parts hok.symm
  have HU := Aside0.mk hu
  have HE : Aside0 (ceilingsP a0 l1 = r) := ⟨h⟩
  clear hok h hu
  have hmk := print_make_int (P := Try.prog) 30 3 (.int .i64 0) 8 Try.underlying30 info3 rfl (by decide) a0 hb0 (by omega)
  go_enter Try.func21, Try.ntmps21
  go_wp2_with (go_at_call 17; refine (ceil_Right.calls k _ _ _ _ _ _ HR.out HC.out HT.out).mono ?_; rintro e w1 ⟨rfl, hb1⟩; have HB1 := Aside0.mk hb1; clear hb1)
  have hst : CeilI (w1.heap.size + 1) w1.heap.size a0.toNat (List.replicate a0.toNat 0) ((w1.alloc (.cells (madeCells #[.int .i64 0] a0.toNat) 3)).alloc (.cells #[.slice (some ⟨w1.heap.size, 0, none⟩) a0.toNat a0.toNat] 30)) := by
    refine ⟨?_, ?_, by simp, by omega⟩
    · have := heap_alloc_new (w1.alloc (.cells (madeCells #[.int .i64 0] a0.toNat) 3)) (.cells #[.slice (some ⟨w1.heap.size, 0, none⟩) a0.toNat a0.toNat] 30)
      simpa using this
    · refine (Below.heap_alloc _ _ _ (by simp)).trans ?_
      rw [← madeNums]
      exact heap_alloc_new _ _
  have hBA : Below w.heap.size w ((w1.alloc (.cells (madeCells #[.int .i64 0] a0.toNat) 3)).alloc (.cells #[.slice (some ⟨w1.heap.size, 0, none⟩) a0.toNat a0.toNat] 30)) := below_alloc (below_alloc HB1.out _) _
  have HSZ := Aside0.mk HB1.out.size
  have hlen : ∀ cs : List Int, ceilStp = ceilStp := fun _ => rfl
  refine (each_calls (CeilI (w1.heap.size + 1) w1.heap.size a0.toNat) ceilStp (fun k => k = w1.heap.size ∨ k = w1.heap.size + 1) 41 #[.pointer (some ⟨w1.heap.size + 1, 0, none⟩)] w _ A1 c1 l1 _ hBA HR.out HC.out (by omega) (fun u hu => ?_) (fun k hk => ?_) (fun s W W' h hk => ?_) (fun s W u i v1 v2 hu h0 h1 hI hb hsz => ?_) enter41 hst).mono ?_
  · have := useOk_len (HU.out u hu) hb8
    omega
  · have := HSZ.out
    rcases hk with rfl | rfl <;> simp <;> omega
  · exact ⟨(hk _ (.inr rfl)).trans h.1, (hk _ (.inl rfl)).trans h.2.1, h.2.2⟩
  · have hbb := useOk_rd (HU.out u hu) _ (rd_mem u.f1 i h0 h1)
    have hl := hI.2.2.1
    refine (cb41 W u.f0 (rd u.f1 i) (rd u.f2 i) v1 v2 _ _ _ s hI hbb.1 (by omega)).mono ?_
    rintro e W' ⟨rfl, h1, h2⟩
    exact ⟨rfl, h1, ⟨h2.os, h2.tape, h2.output, h2.size, fun k hk hn => h2.block k hk (fun e => hn (.inl e))⟩⟩
  · rintro e W' ⟨rfl, hI, hT⟩
    have hV0 : W'.cell? ⟨w1.heap.size + 1, 0, none⟩ = some (.slice (some ⟨w1.heap.size, 0, none⟩) a0.toNat a0.toNat) := (blk_cell hI.1 0).trans rfl
    have HI2 := Aside0.mk hI
    have HB2 : Aside0 (Below w.heap.size w W') := ⟨hBA.trans (hT.below (fun k hk => by have := HSZ.out; rcases hk with rfl | rfl <;> omega) hBA.size)⟩
    clear hI hT hBA hst
    go_wp2
    go_ret
    refine ⟨_, rfl, ?_, HSZ.out, HB2.out⟩
    rw [← HE.out]
    exact HI2.out.2.1
set_option maxHeartbeats 4000000 in
set_option maxRecDepth 100000 in
theorem ceil_Ceilings.calls (k : Nat) (a0 : Int) (A1 : Option Addr) (c1 : Nat) (l1 : List S37) (r : List Int) (w : World) (hr1 : Kd.C k37 w A1 l1.length l1) (hc1 : l1.length ≤ c1) (h : ceil_Ceilings.f k a0 l1 = some r) :
    Calls Try.prog 21 #[.int .i64 a0, .slice A1 l1.length c1] w fun e w' => ∃ v0_ : Value, e = .returned (v0_) ∧ Kd.R (Kd.int .i64) 3 w' w.heap.size (fun _ => True) v0_ r ∧ Below w.heap.size w w' := by
  have hu37 := Try.underlying37
  obtain ⟨t, ht, h⟩ := Option.bind_eq_some_iff.mp h
  have hok := right_out hr1 ht
  have HR := Aside0.mk hr1
  have HC := Aside0.mk hc1
  have HT := Aside0.mk ht
  clear hr1 hc1 ht
  cases t with
  | false =>
    obtain rfl : [] = r := by simpa using h
    clear hok h
    go_enter Try.func21, Try.ntmps21
    go_wp2_with (go_at_call 17; refine (ceil_Right.calls k _ _ _ _ _ _ HR.out HC.out HT.out).mono ?_; rintro e w1 ⟨rfl, hb1⟩; have HB1 := Aside0.mk hb1; clear hb1)
    go_ret
    exact ⟨_, rfl, Kd.R_nil _ _ _ _ _, HB1.out⟩
  | true =>
    obtain ⟨hu, hb0, hb8, hl8⟩ := ceilOk_parts hok.symm
    refine (ceil_Ceilings.made k a0 A1 c1 l1 r w HR.out HC.out HT.out (by simpa using h)).mono ?_
    rintro e W ⟨G, rfl, hG, hle, hb⟩
    have hl : r.length = a0.toNat := by rw [← show ceilingsP a0 l1 = r by simpa using h]; exact ceilingsP_length _ _
    exact ⟨_, rfl, row_nums hG hl hle (by omega), hb⟩


end Go.Proofs.Ytehmolbalfefjaa.Q
